/-
  Chapter 24: the iterator over the areas.
-/
import Derived.Test.YtnomodbcpndocaaSuU
import Derived.Laws.Strings
import Derived.RangeFuncWrites
import Derived.Shelf.Abstract
import Derived.Shelf.RegionOpen
import Derived.LoopNIn
import Derived.LoopIn
import Derived.Deep.Cut
namespace Go.Proofs.Ytnomodbcpndocaa
open Go.RowKit Go.Shelf
set_option linter.unusedVariables false
attribute [local go_sem] Oper.semAt_some

def WkS (Bi Bwp Bu Bp Bw : Nat) (A : Option Addr) (n c : Nat) (Y : List (List Ent) × Int × Int) (σ : Rows) (xs : List Yl) : Prop :=
  xs.map (·.l) = Y.1 ∧ ∃ use, σ = wkRows Bi Bwp Bu Bp Bw A n c use Y.2.1 Y.2.2
def lkV (l : List Ent) (ga k : Nat) : Value := match lastI l k with
  | none => .pointer none
  | some i => .pointer (some ⟨ga, i * 3, none⟩)

set_option maxRecDepth 100000 in
set_option maxHeartbeats 8000000 in
theorem areas1_seq (w : World) (Bo Bi Bwp Bu Bp Bw : Nat) (A : Option Addr) (c : Nat) (img : List ByteArray) (use0 : ByteArray) (himg : SlAt w w.heap.size A (strV img)) (hu : use0.size ≤ 1000000) (hn : img.length ≤ 1000000)
    (hY : ((wlk img 65 use0 0).1.flatten).length ≤ 1024) :
    SeqOwn Fence.wide 4 Try.prog 67 #[.pointer (some ⟨Bu, 0, none⟩), .pointer (some ⟨Bwp, 0, none⟩), .pointer (some ⟨Bi, 0, none⟩)] Yl.enc (WkI w Bo) WkP
      (wkRows Bi Bwp Bu Bp Bw A img.length c use0 0 0) (WkS Bi Bwp Bu Bp Bw A img.length c (wlk img 65 use0 0)) := by
  intro l X W hX hY1 hI hXW
  have HIM := Lib.hid himg
  have HYL := Lib.hid hY
  have HX := Lib.hid hX
  have HYD := Lib.hid hY1
  obtain ⟨Y0, hY0⟩ : ∃ Y0, wlk img 65 use0 0 = Y0 := ⟨_, rfl⟩
  have HY0 := Lib.hid hY0
  rw [hY0] at HYL ⊢
  obtain ⟨n, hn2⟩ : ∃ n, img.length = n := ⟨_, rfl⟩
  have HN := Lib.hid hn2
  rw [hn2] at hI hn ⊢
  have HI := Lib.hid hI
  have HXW := Lib.hid hXW
  clear himg hY hX hY1 hY0 hn2 hI hXW
  refine callsIn_of_wp Try.func67 rfl trivial ?_ rfl
  simp only [Try.ntmps67, List.size_toArray, List.length_cons, List.length_nil, Nat.reduceAdd, Nat.reduceSub, Array.replicate_succ, Array.replicate_zero, List.push_toArray, List.append_toArray, List.nil_append, List.cons_append]
  refine wpIn_wide.2 ?_
  go_wp2_with fail
  go_loopw [5] (fun p wr => ∃ (k : Nat) (use : ByteArray) (a : Int) (xs : List Yl), k ≤ 64 ∧ p = .int .i64 k ∧ WkI w Bo (wkRows Bi Bwp Bu Bp Bw A n c use a 0) xs wr ∧ X wr ∧ Hid (Y0 = (xs.map (·.l) ++ (wlk img (65 - k) use a).1, (wlk img (65 - k) use a).2)) ∧ use.size ≤ 1000000) (fun p _ => 65 - (intOf p).toNat)
  case atStart => exact ⟨0, use0, 0, [], by omega, rfl, HI.out, HXW.out, Lib.hid (by rw [HY0.out]; rfl), hu⟩
  case round =>
    clear HI HXW HY0 hu
    obtain ⟨k, use, a, xs, hk, rfl, hwk, hxw, HY, hus⟩ := hrel
    have q := (hwk.at (i := 2) rfl).cell
    have HW := Lib.hid hwk
    have HXR := Lib.hid hxw
    have CD := Lib.hid (decode_any use wr hus)
    unfold DecRes at CD
    clear hwk hxw
    go_wp2_with fail
    refine CD.out.mono ?_
    rintro e wd ⟨hbd, Aa, ca, rfl, howna⟩
    clear CD q
    have HBD := Lib.hid hbd
    have HA := Lib.hid howna
    obtain ⟨f, hf⟩ : ∃ f, 65 - k = f + 1 := ⟨64 - k, by omega⟩
    have HF := Lib.hid hf
    rw [hf] at HY
    clear hbd howna hf
    by_cases hd : decE use = 0
    · have HD := Lib.hid hd
      obtain ⟨L, hL⟩ : ∃ L, decL use = L := ⟨_, rfl⟩
      have HL := Lib.hid hL
      rw [hd, hL]
      rw [hL] at HA
      obtain ⟨m, hm⟩ : ∃ m, L.length = m := ⟨_, rfl⟩
      have HM := Lib.hid hm
      rw [hm] at HA ⊢
      have hm6 : m ≤ 250001 := by
        have := decL_len use
        rw [hL, hm] at this
        omega
      clear hd hL hm
      have HLA : Hid (EnAt wd wd.heap.size Aa L) := Lib.hid (SlAt.of_own' HA.out (Nat.le_refl _))
      obtain ⟨ga, hga⟩ : ∃ ga, 0 < m → Aa = some ⟨ga, 0, none⟩ ∧ wr.heap.size ≤ ga ∧ ga < wd.heap.size := by
        by_cases h0 : 0 < m
        · obtain ⟨g, cap, hv, h1, h2, h3⟩ := own_form HA.out h0
          injection hv with hv
          exact ⟨g, fun _ => ⟨hv, h1, h2⟩⟩
        · exact ⟨0, fun h => absurd h h0⟩
      have HGA := Lib.hid hga
      clear hga
      go_wp2_with fail
      obtain ⟨wo, hwo⟩ : ∃ wo : World, wo = wr := ⟨_, rfl⟩
      subst hwo
      go_loopw [8, 9, 29] (fun lv lk i W => ∃ j : Nat, j ≤ m ∧ i = .int .i64 j ∧ lk = lkV L ga j ∧ W.ownsRow wd.heap.size 41 3 lv (nonCE (L.take j)).length (flat encE (nonCE (L.take j))) ∧ Below wd.heap.size wd W) (fun _ _ i _ => m - (intOf i).toNat)
      case atStart => exact ⟨0, by omega, rfl, rfl, World.ownsRow_nil _ _ _ _, Below.refl _ _⟩
      case round =>
        obtain ⟨j, hj, rfl, rfl, hown, hbel⟩ := hrel
        obtain ⟨Al, cl, hlv⟩ := own_slice hown
        subst hlv
        by_cases hlt : j < m
        · obtain ⟨⟨sg, xv, d⟩, hx⟩ : ∃ s, L[j]? = some s := ⟨L[j]'(by rw [HM.out]; exact hlt), List.getElem?_eq_getElem _⟩
          obtain ⟨hA1, _, hA3⟩ := HGA.out (by omega)
          subst hA1
          obtain ⟨p0, p1, p2⟩ := (HLA.out.below hbel).cells rfl hx
          dsimp only at p0 p1 p2
          rw [Nat.zero_add] at p0 p1 p2
          have hltI : (j : Int) < (m : Int) := by omega
          have h0j : (0 : Int) ≤ (j : Int) := by omega
          have HNT := Lib.hid (nonCE_take hx)
          have hnl := nonCE_le (L.take j)
          rw [List.length_take] at hnl
          have HLI : Hid (lastI L (j + 1) = if sg = ceS then some j else lastI L j) := Lib.hid (by show (if (L[j]?.getD default).sg = ceS then some j else lastI L j) = _; rw [hx]; rfl)
          have HO := Lib.hid hown
          have HB := Lib.hid hbel
          have hA4 := hbel.size
          obtain ⟨LK, hLK⟩ : ∃ LK, lkV L ga j = LK := ⟨_, rfl⟩
          have HLK := Lib.hid hLK
          rw [hLK]
          clear hx hown hbel hLK
          by_cases hce : sg = ceS
          · have HLK2 : Hid (lkV L ga (j + 1) = .pointer (some ⟨ga, j * 3, none⟩)) := Lib.hid (by unfold lkV; rw [HLI.out, if_pos hce])
            have HN2 : Hid (nonCE (L.take (j + 1)) = nonCE (L.take j)) := Lib.hid (by rw [HNT.out, if_pos hce, List.append_nil])
            obtain rfl : sg = ⟨#[67, 69]⟩ := hce
            go_wp2_with fail
            go_roundw
            case rel => first | exact ⟨j + 1, by omega, by go_num, HLK2.out.symm, by rw [HN2.out]; exact HO.out.alloc _, HB.out.alloc hA4 _⟩ | exact ⟨_, ⟨j + 1, by omega, by simp, HLK2.out.symm, by rw [HN2.out]; exact HO.out.alloc _, HB.out.alloc hA4 _⟩, rfl⟩
            case measure => simp [intOf]; omega
          · have HLK2 : Hid (lkV L ga (j + 1) = LK) := Lib.hid (by rw [← HLK.out]; unfold lkV; rw [HLI.out, if_neg hce])
            have HN2 : Hid (nonCE (L.take (j + 1)) = nonCE (L.take j) ++ [⟨sg, xv, d⟩]) := Lib.hid (by rw [HNT.out, if_neg hce])
            have f1 : ¬ sg = ⟨#[67, 69]⟩ := hce
            have f1b : (sg.toList == [67, 69]) = false := by
              rw [beq_eq_false_iff_ne]
              intro h
              refine f1 (ByteArray.ext (Array.ext' ?_))
              rw [← ByteArray.toList_eq]
              exact h
            clear hce
            go_upto_region 12 with fail
            have hnew := RowAt.new wr 41 #[.string sg, .int .i64 xv, .string d]
            have HO2 := Lib.hid (HO.out.alloc (.cells #[.string sg, .int .i64 xv, .string d] 41))
            have HB2 := Lib.hid (HB.out.alloc hA4 (.cells #[.string sg, .int .i64 xv, .string d] 41))
            have qn := hnew.cell
            generalize hgx : wr.heap.size = gx at *
            generalize (wr.alloc (.cells #[.string sg, .int .i64 xv, .string d] 41)) = wx at *
            go_wp2_with (at_builtin; refine wpList_appNH HO2.out rfl info_ent Try.underlying22 rfl (by decide) (us := [.string sg, .int .i64 xv, .string d]) rfl (by unfold maxLen; omega) (by omega) HB2.out.size (by intro u hu; simp only [List.mem_cons, List.not_mem_nil, or_false] at hu; rcases hu with rfl | rfl | rfl <;> rfl) rfl rfl (by rfl) (by rfl) ?_; intro v5 w6 hown6 hb6 hg6)
            exact ⟨⟨j + 1, by omega, by simp, HLK2.out.symm, by rw [HN2.out, List.length_append, flat_snoc]; exact hown6, HB2.out.trans hb6⟩, by simp [intOf]; omega⟩
        · obtain rfl : j = m := by omega
          have hge : ¬ (j : Int) < (j : Int) := by omega
          rw [List.take_of_length_le (Nat.le_of_eq HM.out)] at hown ⊢
          have hbw : Below wo.heap.size wo wr := HBD.out.trans (hbel.mono HBD.out.size)
          have hx1 := HX.out _ _ HXR.out (KeepsOthers.of_below hbw)
          have HTOT : Hid ((allE (xs ++ [⟨Al, cl, nonCE L⟩])).length ≤ 1024) := Lib.hid (by
            obtain ⟨r, hr⟩ := wlk_head img f use a HD.out
            rw [HL.out] at hr
            have h1 := HYL.out
            rw [HY.out] at h1
            dsimp only at h1
            rw [hr, List.flatten_append, List.flatten_cons, ← allE_map, List.length_append, List.length_append] at h1
            rw [allE_snoc, List.length_append]
            show (allE xs).length + (nonCE L).length ≤ 1024
            omega)
          have HEN : Hid (EnAt wr wr.heap.size Al (nonCE L)) := Lib.hid (SlAt.of_own' hown (Nat.le_refl _))
          have HB := Lib.hid hbel
          have HBW := Lib.hid hbw
          have HX1 := Lib.hid hx1
          obtain ⟨ln, hln⟩ : ∃ ln, (nonCE L).length = ln := ⟨_, rfl⟩
          cases hli : lastI L j with
          | none =>
            have HFIN : Hid (Y0 = (xs.map (·.l) ++ [nonCE L], (a, 0))) := Lib.hid (by rw [HY.out, wlk_end HD.out (by rw [HL.out, HM.out]; exact hli), HL.out])
            obtain ⟨fn, tmps, assign, body, hy, hR⟩ := HYD.out _ xs ⟨Al, cl, nonCE L⟩ wr (HW.out.call hbw) ⟨HEN.out, HTOT.out⟩ hx1
            unfold Yl.enc at hy
            dsimp only at hy
            have hlk : lkV L ga j = .pointer none := by unfold lkV; rw [hli]
            rw [hlk]
            rw [hln] at hy ⊢
            clear hli hlk hown hbel hbw hx1 hln
            go_upto_region 14 with fail
            refine (wpIn_wide (n := 4)).1 ?_
            gi_wp2
            refine hR.mono ?_
            rintro e W3 ⟨rfl, hI3, hX3⟩
            gi_wp2
            go_wp2_with fail
            refine bodyPost_ret (results_none rfl _ _ _) rfl ?_
            exact ⟨⟨_, rfl⟩, _, _, ⟨by rw [List.map_append, HFIN.out]; rfl, use, by rw [HFIN.out]⟩, hI3, hX3⟩
          | some i =>
            have hij := lastI_lt hli
            have HLI := Lib.hid hli
            obtain ⟨⟨sg, xv, d⟩, hx⟩ : ∃ x, L[i]? = some x := ⟨L[i]'(by rw [HM.out]; exact hij), List.getElem?_eq_getElem _⟩
            obtain ⟨hA1, hA2, hA3⟩ := HGA.out (by omega)
            subst hA1
            obtain ⟨cur, hcur, htake⟩ : ∃ cur, RowAt wd ga 41 cur ∧ cur.toList.take (j * 3) = flat encE L := by
              rcases HA.out.2 with ⟨h1, _⟩ | ⟨g, cap, cur, h1, _, h2, _, _, _, h3⟩
              · cases h1
              · injection h1 with h1 _ _
                injection h1 with h1
                injection h1 with h1 _ _
                subst h1
                exact ⟨cur, h2, h3⟩
            have hcd : cur[i * 3 + 2]? = some (.string d) := by
              have h1 : (cur.toList.take (j * 3))[i * 3 + 2]? = some (.string d) := by rw [htake, flat_get encE_length L i 2 _ hx (by omega)]; rfl
              rw [List.getElem?_take, if_pos (by omega)] at h1
              simpa using h1
            have HD5 : Hid (d.size ≤ 255) := Lib.hid (by
              have := decL_d use ⟨sg, xv, d⟩ (by rw [HL.out]; exact List.mem_of_getElem? hx)
              exact this)
            have HDD : Hid (lnkD L i = d) := Lib.hid (by unfold lnkD; rw [hx]; rfl)
            have hW2 := HW.out.join hbw hA2 (hcur.below hbel hA3)
            obtain ⟨fn, tmps, assign, body, hy, hR⟩ := HYD.out _ xs ⟨Al, cl, nonCE L⟩ wr hW2 ⟨HEN.out, HTOT.out⟩ hx1
            unfold Yl.enc at hy
            dsimp only at hy
            have hlk : lkV L ga j = .pointer (some ⟨ga, i * 3, none⟩) := by unfold lkV; rw [hli]
            have HCD := Lib.hid hcd
            rw [hlk]
            rw [hln] at hy ⊢
            clear hli hlk hown hbel hbw hx1 hx hcur htake hcd hW2
            go_upto_region 14 with fail
            refine (wpIn_wide (n := 4)).1 ?_
            gi_wp2
            refine hR.mono ?_
            rintro e W3 ⟨rfl, hI3, hX3⟩
            clear hy hR hln
            gi_wp2
            go_upto_region 15 with fail
            have hd255 : d.size ≤ 255 := HD5.out
            have HP1 : Hid (plcV d 1 < 9223372036854775808) := Lib.hid (plcV_lt d 1)
            have CR : Hid (∀ (t : Nat) (W : World), Calls Try.prog 68 #[.string d, .int .i64 (8 * (t : Int)), .int .i64 4] W fun e w' => e = .returned (.tuple #[.int .i64 (plcV d t), .int .i64 (plcE d t)]) ∧ w' = W) := Lib.hid fun t W => by
              have := readlittle_same d ((8 * t : Nat) : Int) 4 W (by omega)
              rw [show ((8 * t : Nat) : Int) = 8 * (t : Int) by omega] at this
              unfold plcV plcE
              rw [show ((8 * t : Nat) : Int) = 8 * (t : Int) by omega]
              exact this
            have HI4 := Lib.hid (hI3.new (g := W3.heap.size) rfl #[.int .i64 0, .int .i64 0, .int .i64 0] 106)
            have hX4 := HX.out _ _ hX3 (KeepsOthers.alloc W3 (.cells #[.int .i64 0, .int .i64 0, .int .i64 0] 106))
            have HX4 := Lib.hid hX4
            generalize hXS : xs ++ [(⟨Al, cl, nonCE L⟩ : Yl)] = xs' at *
            have HXS := Lib.hid hXS
            clear hI3 hX3 hX4 hXS
            obtain ⟨gp, hgp⟩ : ∃ gp, W3.heap.size = gp := ⟨_, rfl⟩
            rw [hgp] at HI4
            go_wp2_with fail
            generalize W3.alloc (.cells #[.int .i64 0, .int .i64 0, .int .i64 0] 106) = W4 at *
            clear hgp
            go_loopw [7, 53] (fun ev p W => ∃ t : Nat, t ≤ 3 ∧ p = .int .i64 t ∧ ev = .int .i64 (plcX d t) ∧ WkI w Bo ((gp, 106, plcA d t) :: (ga, 41, cur) :: wkRows Bi Bwp Bu Bp Bw A n c use a 0) xs' W ∧ X W) (fun _ p _ => 3 - (intOf p).toNat)
            case atStart => exact ⟨0, by omega, rfl, rfl, HI4.out, HX4.out⟩
            case round =>
              clear HI4 HX4
              obtain ⟨t, ht, rfl, rfl, hI, hXr⟩ := hrel
              have HI := Lib.hid hI
              have HXr := Lib.hid hXr
              have q0 := (hI.at (i := 1) rfl).cell (i * 3 + 2)
              rw [HCD.out] at q0
              by_cases ht3 : t < 3
              · have HPN := Lib.hid (plcA_next d t ht3)
                have q1 := (hI.at (i := 0) rfl).cell t
                rw [HPN.out.1] at q1
                have f1 := (hI.at (i := 0) rfl).frozen t
                have hI5 := hI.set 0 rfl (by decide) t (.int .i64 (plcV d t))
                rw [HPN.out.2] at hI5
                have E5 := Lib.hid (And.intro hI5 (HX.out _ _ hXr (KeepsOthers.setCell wr ⟨gp, t, none⟩ (.int .i64 (plcV d t)))))
                have C := Lib.hid (CR.out t wr)
                generalize plcV d t = PV at *
                generalize hpe : plcE d t = PE at *
                have HPE : Hid (plcX d (t + 1) = PE) := Lib.hid hpe
                obtain ⟨PX, hpx⟩ : ∃ PX, plcX d t = PX := ⟨_, rfl⟩
                rw [hpx]
                have h0t : (0 : Int) ≤ (t : Int) := by omega
                have htI : (t : Int) < 3 := by omega
                clear hI hXr hI5 hpe hpx
                go_wp2_with fail
                refine C.out.mono ?_
                rintro e w9 ⟨rfl, rfl⟩
                go_wp2_with fail
                exact ⟨⟨t + 1, by omega, by simp, by rw [HPE.out], E5.out.1, E5.out.2⟩, by simp [intOf]; omega⟩
              · obtain rfl : t = 3 := by omega
                rw [show (((3 : Nat) : Int)) = 3 from rfl]
                have hge : ¬ (3 : Int) < 3 := by omega
                have qp0 : wr.cell? ⟨gp, 0, none⟩ = some (.int .i64 (plcV d 0)) := (hI.at (i := 0) rfl).cell 0
                have qp1 : wr.cell? ⟨gp, 1, none⟩ = some (.int .i64 (plcV d 1)) := (hI.at (i := 0) rfl).cell 1
                have qp2 : wr.cell? ⟨gp, 2, none⟩ = some (.int .i64 (plcV d 2)) := (hI.at (i := 0) rfl).cell 2
                have qw : wr.cell? ⟨Bwp, 0, none⟩ = some (.pointer (some ⟨Bw, 0, none⟩)) := (hI.at (i := 3) rfl).cell 0
                have q4 := (hI.at (i := 6) rfl).cell
                have f4 := (hI.at (i := 6) rfl).frozen
                have CA := Lib.hid (fun w => isarea_any (plcV d 1) (plcV d 2) w (by have := plcV_nn d 1; omega) HP1.out)
                obtain ⟨Er, hEr⟩ : ∃ Er, plcX d 3 = Er := ⟨_, rfl⟩
                have HER := Lib.hid hEr
                rw [hEr]
                have HBADE : Hid (badA d = (decide (d.size ≠ 24) || !areaB (plcV d 1) (plcV d 2))) := Lib.hid rfl
                have HPNN := Lib.hid (plcV_nn d 0)
                have HP10 := Lib.hid (plcV_nn d 1)
                have hP10 := plcV_nn d 1
                have HYD := Lib.hid (show lastI (decL use) (decL use).length = some i by rw [HL.out, HM.out]; exact HLI.out)
                have HMAP : Hid (xs'.map (·.l) = xs.map (·.l) ++ [nonCE L]) := Lib.hid (by rw [← HXS.out, List.map_append]; rfl)
                have HDD2 : Hid (lnkD (decL use) i = d) := Lib.hid (by rw [HL.out]; exact HDD.out)
                clear hI hXr hEr q0
                have q0 := (HI.out.at (i := 1) rfl).cell (i * 3 + 2)
                rw [HCD.out] at q0
                by_cases h24 : d.size = 24
                · have h24I : (d.size : Int) = 24 := by omega
                  obtain rfl : Er = 0 := HER.out.symm.trans (plcE_ok h24)
                  cases hA : areaB (plcV d 1) (plcV d 2) with
                  | false =>
                    have HBAD : Hid (badA (lnkD (decL use) i) = true) := Lib.hid (by rw [HDD2.out, HBADE.out, hA]; simp)
                    rw [hA] at CA
                    clear hA h24
                    have HFIN : Hid (Y0 = (xs'.map (·.l), (a, 10))) := Lib.hid (by rw [HY.out, wlk_area HD.out HYD.out HBAD.out, HMAP.out, HL.out])
                    have E7 := Lib.hid (And.intro (HI.out.set 6 rfl (by decide) 1 (.int .i64 10)).drop1.drop1 (HX.out _ _ HXr.out (KeepsOthers.setCell wr ⟨Bw, 1, none⟩ (.int .i64 10))))
                    generalize plcV d 0 = P0 at *
                    generalize plcV d 1 = P1 at *
                    generalize plcV d 2 = P2 at *
                    go_wp2_with fail
                    refine (CA.out _).mono ?_
                    rintro e w9 ⟨rfl, rfl⟩
                    go_wp2_with fail
                    refine bodyPost_ret (results_none rfl _ _ _) rfl ?_
                    exact ⟨⟨_, rfl⟩, _, xs', ⟨by rw [HFIN.out], use, by rw [HFIN.out]; rfl⟩, E7.out⟩
                  | true =>
                    have HBAD : Hid (badA (lnkD (decL use) i) = false) := Lib.hid (by rw [HDD2.out, HBADE.out, hA]; simp [h24])
                    have hA2 := hA
                    unfold areaB at hA2
                    simp only [Bool.and_eq_true, decide_eq_true_eq] at hA2
                    have HAR := Lib.hid hA2
                    rw [hA] at CA
                    clear hA h24 hA2
                    have hI7 := HI.out.set 6 rfl (by decide) 0 (.int .i64 (plcV d 0))
                    have hX7 := HX.out _ _ HXr.out (KeepsOthers.setCell wr ⟨Bw, 0, none⟩ (.int .i64 (plcV d 0)))
                    replace hI7 : WkI w Bo ((gp, 106, plcA d 3) :: (ga, 41, cur) :: wkRows Bi Bwp Bu Bp Bw A n c use (plcV d 0) 0) xs' (wr.setCell ⟨Bw, 0, none⟩ (.int .i64 (plcV d 0))) := hI7
                    have HI7 := Lib.hid hI7
                    have HX7 := Lib.hid hX7
                    clear hI7 hX7
                    have h0p := plcV_nn d 0
                    obtain ⟨P, hP0⟩ : ∃ P : Nat, plcV d 0 = (P : Int) := ⟨(plcV d 0).toNat, by omega⟩
                    have HP0 := Lib.hid hP0
                    obtain ⟨o1, hO1⟩ : ∃ o1 : Nat, plcV d 1 = (o1 : Int) := ⟨(plcV d 1).toNat, by have := HP10.out; omega⟩
                    obtain ⟨o2, hO2⟩ : ∃ o2 : Nat, plcV d 2 = (o2 : Int) := ⟨(plcV d 2).toNat, by have := HAR.out; omega⟩
                    have HO1 := Lib.hid hO1
                    have HO2 := Lib.hid hO2
                    have har := HAR.out
                    have HPL : Hid (plcA d 3 = #[.int .i64 (P : Int), .int .i64 (o1 : Int), .int .i64 (o2 : Int)]) := Lib.hid (by rw [← hP0, ← hO1, ← hO2]; rfl)
                    rw [HPL.out, hP0] at HI7
                    rw [hP0] at HX7
                    rw [hO1, hO2] at CA har
                    rw [hP0] at qp0
                    rw [hO1] at qp1
                    rw [hO2] at qp2
                    clear hP0 hO1 hO2 h0p hP10
                    go_wp2_with fail
                    refine (CA.out _).mono ?_
                    rintro e w9 ⟨rfl, rfl⟩
                    go_upto_region 24 with fail
                    generalize wr.setCell ⟨Bw, 0, none⟩ (.int .i64 (P : Int)) = w7 at *
                    clear qw q4 f4 q0 qp0 qp1 qp2 CA
                    by_cases hf0 : f = 0
                    · subst hf0
                      have hk64 : k = 64 := by have := HF.out; omega
                      subst hk64
                      rw [show ((64 : Nat) : Int) = 64 from rfl]
                      have HFIN : Hid (Y0 = (xs'.map (·.l), ((P : Int), 13))) := Lib.hid (by rw [HY.out, wlk_loop HD.out HYD.out HBAD.out, HMAP.out, HDD2.out, HL.out, HP0.out])
                      have E7 := Lib.hid (And.intro (HI7.out.set 6 rfl (by decide) 1 (.int .i64 13)).drop1.drop1 (HX.out _ _ HX7.out (KeepsOthers.setCell _ ⟨Bw, 1, none⟩ (.int .i64 13))))
                      have qw : w7.cell? ⟨Bwp, 0, none⟩ = some (.pointer (some ⟨Bw, 0, none⟩)) := (HI7.out.at (i := 3) rfl).cell 0
                      have q4 := (HI7.out.at (i := 6) rfl).cell
                      have f4 := (HI7.out.at (i := 6) rfl).frozen
                      go_wp2_with fail
                      refine bodyPost_ret (results_none rfl _ _ _) rfl ?_
                      exact ⟨⟨_, rfl⟩, _, xs', ⟨by rw [HFIN.out], use, by rw [HFIN.out]; rfl⟩, E7.out⟩
                    · have hk64 : ¬ ((k : Int) = 64) := by have := HF.out; omega
                      have hkI : ((k : Int) == 64) = false := by simpa using hk64
                      have HHB : Hid (hasBlk img (plcV (lnkD (decL use) i) 0) = (decide (P < n) && decide ((img[P]?.getD ⟨#[]⟩).size = 2048))) := Lib.hid (by
                        rw [HDD2.out, HP0.out]
                        unfold hasBlk
                        rw [HN.out, Int.toNat_natCast, decide_eq_true (show (0 : Int) ≤ (P : Int) by omega), Bool.true_and]
                        congr 1
                        exact decide_eq_decide.2 (by omega))
                      have HNX : Hid (nextS img (lnkD (decL use) i) = (img[P]?.getD ⟨#[]⟩).extract o1 (o1 + o2)) := Lib.hid (by
                        rw [HDD2.out]
                        unfold nextS
                        rw [HP0.out, HO1.out, HO2.out, Int.toNat_natCast, Int.toNat_natCast, Int.toNat_natCast])
                      have HPV : Hid (plcV (lnkD (decL use) i) 0 = (P : Int)) := Lib.hid (by rw [HDD2.out, HP0.out])
                      have h0P : (0 : Int) ≤ (P : Int) := by omega
                      by_cases hPn : P < n
                      · obtain ⟨blk, hblk⟩ : ∃ b, img[P]? = some b := ⟨img[P]'(by rw [HN.out]; exact hPn), List.getElem?_eq_getElem _⟩
                        obtain ⟨bi, offi, hAi, hbi⟩ := HIM.out.strAddr (by rw [HN.out]; omega)
                        subst hAi
                        have HBK := Lib.hid hblk
                        have HIMW : Hid (∀ W, Below w.heap.size w W → W.cell? ⟨bi, offi + P, none⟩ = some (.string blk)) := Lib.hid fun W h => (HIM.out.below h).str rfl HBK.out
                        have hPnI : (P : Int) < (n : Int) := by omega
                        have hPnF : ¬ (n : Int) ≤ (P : Int) := by omega
                        clear hblk
                        by_cases hbz : blk.size = 2048
                        · have hbzI : (blk.size : Int) = 2048 := by omega
                          have hbzB : ((blk.size : Int) != 2048) = false := by simp; omega
                          go_upto_region 26 with fail
                          refine wp_region_held_drew (S := (fun w' => WkI w Bo ((gp, 106, #[.int .i64 (P : Int), .int .i64 (o1 : Int), .int .i64 (o2 : Int)]) :: (ga, 41, cur) :: wkRows Bi Bwp Bu Bp Bw (some ⟨bi, offi, none⟩) n c use (P : Int) 0) xs' w')) (by kernel_rfl) (HI7.out.drew) (fun hHeld => ?_)
                          refine wpAnyH_take (i := 0) (oi := ?o16) (v := ?v16) ?hi16 (by kernel_rfl) (by kernel_rfl) (by kernel_rfl) ?hq16 ?hy16 (by assumption) ?hr16
                          case hi16 => (simp only [List.getElem?_toArray, List.getElem?_cons_zero]; rfl)
                          case hy16 => ((refine .inl ⟨by rfl, ?_⟩); intro w hS; have q := (hS.at (i := 3) rfl).cell 0; go_simp; (try with_reducible rfl))
                          case hq16 => exact fun _ _ _ h => h
                          (simp only [Act.put, List.setIfInBounds_toArray, List.set_cons_zero, List.set_cons_succ])
                          refine wpAnyH_take (i := 1) (oi := ?o17) (v := ?v17) ?hi17 (by kernel_rfl) (by kernel_rfl) (by kernel_rfl) ?hq17 ?hy17 (by assumption) ?hr17
                          case hi17 => (simp only [List.getElem?_toArray, List.getElem?_cons_succ, List.getElem?_cons_zero]; rfl)
                          case hy17 => ((refine .inl ⟨by rfl, ?_⟩); intro w hS; go_simp; (try with_reducible rfl))
                          case hq17 => exact fun _ _ _ h => h
                          (simp only [Act.put, List.setIfInBounds_toArray, List.set_cons_zero, List.set_cons_succ])
                          refine wpAnyH_take (i := 2) (oi := ?o18) (v := ?v18) ?hi18 (by kernel_rfl) (by kernel_rfl) (by kernel_rfl) ?hq18 ?hy18 (by assumption) ?hr18
                          case hi18 => (simp only [List.getElem?_toArray, List.getElem?_cons_succ, List.getElem?_cons_zero]; rfl)
                          case hy18 => ((refine .inl ⟨by rfl, ?_⟩); intro w hS; go_simp; (try with_reducible rfl))
                          case hq18 => exact fun _ _ _ h => h
                          (simp only [Act.put, List.setIfInBounds_toArray, List.set_cons_zero, List.set_cons_succ])
                          refine wpAnyH_take (i := 3) (oi := ?o19) (v := ?v19) ?hi19 (by kernel_rfl) (by kernel_rfl) (by kernel_rfl) ?hq19 ?hy19 (by assumption) ?hr19
                          case hi19 => (simp only [List.getElem?_toArray, List.getElem?_cons_succ, List.getElem?_cons_zero]; rfl)
                          case hy19 => ((refine .inl ⟨by rfl, ?_⟩); intro w hS; have q := (hS.at (i := 6) rfl).cell; go_simp; (try with_reducible rfl))
                          case hq19 => exact fun _ _ _ h => h
                          (simp only [Act.put, List.setIfInBounds_toArray, List.set_cons_zero, List.set_cons_succ])
                          refine wpAnyH_take (i := 4) (oi := ?o20) (v := ?v20) ?hi20 (by kernel_rfl) (by kernel_rfl) (by kernel_rfl) ?hq20 ?hy20 (by assumption) ?hr20
                          case hi20 => (simp only [List.getElem?_toArray, List.getElem?_cons_succ, List.getElem?_cons_zero]; rfl)
                          case hy20 => ((refine .inl ⟨by rfl, ?_⟩); intro w hS; have q := (hS.at (i := 2) rfl).cell; go_simp; (try with_reducible rfl))
                          case hq20 => exact fun _ _ _ h => h
                          (simp only [Act.put, List.setIfInBounds_toArray, List.set_cons_zero, List.set_cons_succ])
                          refine wpAnyH_take (i := 5) (oi := ?o21) (v := ?v21) ?hi21 (by kernel_rfl) (by kernel_rfl) (by kernel_rfl) ?hq21 ?hy21 (by assumption) ?hr21
                          case hi21 => (simp only [List.getElem?_toArray, List.getElem?_cons_succ, List.getElem?_cons_zero]; rfl)
                          case hy21 => ((refine .inl ⟨by rfl, ?_⟩); intro w hS; go_simp; (try with_reducible rfl))
                          case hq21 => exact fun _ _ _ h => h
                          (simp only [Act.put, List.setIfInBounds_toArray, List.set_cons_zero, List.set_cons_succ])
                          refine wpAnyH_take (i := 6) (oi := ?o22) (v := ?v22) ?hi22 (by kernel_rfl) (by kernel_rfl) (by kernel_rfl) ?hq22 ?hy22 (by assumption) ?hr22
                          case hi22 => (simp only [List.getElem?_toArray, List.getElem?_cons_succ, List.getElem?_cons_zero]; rfl)
                          case hy22 => ((refine .inl ⟨by rfl, ?_⟩); intro w hS; go_simp; (try with_reducible rfl))
                          case hq22 => exact fun _ _ _ h => h
                          (simp only [Act.put, List.setIfInBounds_toArray, List.set_cons_zero, List.set_cons_succ])
                          refine wpAnyH_take (i := 7) (oi := ?o23) (v := ?v23) ?hi23 (by kernel_rfl) (by kernel_rfl) (by kernel_rfl) ?hq23 ?hy23 (by assumption) ?hr23
                          case hi23 => (simp only [List.getElem?_toArray, List.getElem?_cons_succ, List.getElem?_cons_zero]; rfl)
                          case hy23 => ((refine .inl ⟨by rfl, ?_⟩); intro w hS; go_simp; (try with_reducible rfl))
                          case hq23 => exact fun _ _ _ h => h
                          (simp only [Act.put, List.setIfInBounds_toArray, List.set_cons_zero, List.set_cons_succ])
                          refine wpAnyH_take (i := 8) (oi := ?o24) (v := ?v24) ?hi24 (by kernel_rfl) (by kernel_rfl) (by kernel_rfl) ?hq24 ?hy24 (by assumption) ?hr24
                          case hi24 => (simp only [List.getElem?_toArray, List.getElem?_cons_succ, List.getElem?_cons_zero]; rfl)
                          case hy24 => ((refine .inl ⟨by rfl, ?_⟩); intro w hS; have q := (hS.at (i := 2) rfl).cell; go_simp; (try with_reducible rfl))
                          case hq24 => exact fun _ _ _ h => h
                          (simp only [Act.put, List.setIfInBounds_toArray, List.set_cons_zero, List.set_cons_succ])
                          refine wpAnyH_take (i := 9) (oi := ?o25) (v := ?v25) ?hi25 (by kernel_rfl) (by kernel_rfl) (by kernel_rfl) ?hq25 ?hy25 (by assumption) ?hr25
                          case hi25 => (simp only [List.getElem?_toArray, List.getElem?_cons_succ, List.getElem?_cons_zero]; rfl)
                          case hy25 => ((refine .inl ⟨by rfl, ?_⟩); intro w hS; have q := (hS.at (i := 3) rfl).cell 0; go_simp; (try with_reducible rfl))
                          case hq25 => exact fun _ _ _ h => h
                          (simp only [Act.put, List.setIfInBounds_toArray, List.set_cons_zero, List.set_cons_succ])
                          refine wpAnyH_take (i := 10) (oi := ?o26) (v := ?v26) ?hi26 (by kernel_rfl) (by kernel_rfl) (by kernel_rfl) ?hq26 ?hy26 (by assumption) ?hr26
                          case hi26 => (simp only [List.getElem?_toArray, List.getElem?_cons_succ, List.getElem?_cons_zero]; rfl)
                          case hy26 => ((refine .inl ⟨by rfl, ?_⟩); intro w hS; go_simp; (try with_reducible rfl))
                          case hq26 => exact fun _ _ _ h => h
                          (simp only [Act.put, List.setIfInBounds_toArray, List.set_cons_zero, List.set_cons_succ])
                          refine wpAnyH_take (i := 11) (oi := ?o27) (v := ?v27) ?hi27 (by kernel_rfl) (by kernel_rfl) (by kernel_rfl) ?hq27 ?hy27 (by assumption) ?hr27
                          case hi27 => (simp only [List.getElem?_toArray, List.getElem?_cons_succ, List.getElem?_cons_zero]; rfl)
                          case hy27 => ((refine .inl ⟨by rfl, ?_⟩); intro w hS; go_simp; (try with_reducible rfl))
                          case hq27 => exact fun _ _ _ h => h
                          (simp only [Act.put, List.setIfInBounds_toArray, List.set_cons_zero, List.set_cons_succ])
                          refine wpAnyH_take (i := 12) (oi := ?o28) (v := ?v28) ?hi28 (by kernel_rfl) (by kernel_rfl) (by kernel_rfl) ?hq28 ?hy28 (by assumption) ?hr28
                          case hi28 => (simp only [List.getElem?_toArray, List.getElem?_cons_succ, List.getElem?_cons_zero]; rfl)
                          case hy28 => ((refine .inl ⟨by rfl, ?_⟩); intro w hS; have q := (hS.at (i := 6) rfl).cell; go_simp; (try with_reducible rfl))
                          case hq28 => exact fun _ _ _ h => h
                          (simp only [Act.put, List.setIfInBounds_toArray, List.set_cons_zero, List.set_cons_succ])
                          refine wpAnyH_take (i := 13) (oi := ?o29) (v := ?v29) ?hi29 (by kernel_rfl) (by kernel_rfl) (by kernel_rfl) ?hq29 ?hy29 (by assumption) ?hr29
                          case hi29 => (simp only [List.getElem?_toArray, List.getElem?_cons_succ, List.getElem?_cons_zero]; rfl)
                          case hy29 => ((refine .inl ⟨by rfl, ?_⟩); intro w hS; go_simp; (try with_reducible rfl))
                          case hq29 => exact fun _ _ _ h => h
                          (simp only [Act.put, List.setIfInBounds_toArray, List.set_cons_zero, List.set_cons_succ])
                          refine wpAnyH_take (i := 14) (oi := ?o30) (v := ?v30) ?hi30 (by kernel_rfl) (by kernel_rfl) (by kernel_rfl) ?hq30 ?hy30 (by assumption) ?hr30
                          case hi30 => (simp only [List.getElem?_toArray, List.getElem?_cons_succ, List.getElem?_cons_zero]; rfl)
                          case hy30 => ((refine .inl ⟨by rfl, ?_⟩); intro w hS; have q := HIMW.out _ hS.bel; go_simp; (try with_reducible rfl))
                          case hq30 => exact fun _ _ _ h => h
                          (simp only [Act.put, List.setIfInBounds_toArray, List.set_cons_zero, List.set_cons_succ])
                          refine wpAnyH_take (i := 15) (oi := ?o31) (v := ?v31) ?hi31 (by kernel_rfl) (by kernel_rfl) (by kernel_rfl) ?hq31 ?hy31 (by assumption) ?hr31
                          case hi31 => (simp only [List.getElem?_toArray, List.getElem?_cons_succ, List.getElem?_cons_zero]; rfl)
                          case hy31 => ((refine .inl ⟨by rfl, ?_⟩); intro w hS; go_simp; (try with_reducible rfl))
                          case hq31 => exact fun _ _ _ h => h
                          (simp only [Act.put, List.setIfInBounds_toArray, List.set_cons_zero, List.set_cons_succ])
                          refine wpAnyH_take (i := 16) (oi := ?o32) (v := ?v32) ?hi32 (by kernel_rfl) (by kernel_rfl) (by kernel_rfl) ?hq32 ?hy32 (by assumption) ?hr32
                          case hi32 => (simp only [List.getElem?_toArray, List.getElem?_cons_succ, List.getElem?_cons_zero]; rfl)
                          case hy32 => ((refine .inl ⟨by rfl, ?_⟩); intro w hS; go_simp; (try with_reducible rfl))
                          case hq32 => exact fun _ _ _ h => h
                          (simp only [Act.put, List.setIfInBounds_toArray, List.set_cons_zero, List.set_cons_succ])
                          refine wpAnyH_take (i := 17) (oi := ?o33) (v := ?v33) ?hi33 (by kernel_rfl) (by kernel_rfl) (by kernel_rfl) ?hq33 ?hy33 (by assumption) ?hr33
                          case hi33 => (simp only [List.getElem?_toArray, List.getElem?_cons_succ, List.getElem?_cons_zero]; rfl)
                          case hy33 => ((refine .inl ⟨by rfl, ?_⟩); intro w hS; go_simp; (try with_reducible rfl))
                          case hq33 => exact fun _ _ _ h => h
                          (simp only [Act.put, List.setIfInBounds_toArray, List.set_cons_zero, List.set_cons_succ])
                          refine wpAnyH_take (i := 18) (oi := ?o34) (v := ?v34) ?hi34 (by kernel_rfl) (by kernel_rfl) (by kernel_rfl) ?hq34 ?hy34 (by assumption) ?hr34
                          case hi34 => (simp only [List.getElem?_toArray, List.getElem?_cons_succ, List.getElem?_cons_zero]; rfl)
                          case hy34 => ((refine .inl ⟨by rfl, ?_⟩); intro w hS; go_simp; (try with_reducible rfl))
                          case hq34 => exact fun _ _ _ h => h
                          (simp only [Act.put, List.setIfInBounds_toArray, List.set_cons_zero, List.set_cons_succ])
                          refine wpAnyH_done (by kernel_rfl) ?_ _
                          have HK : Hid (hasBlk img (plcV (lnkD (decL use) i) 0) = true) := Lib.hid (by rw [HHB.out, HBK.out, Option.getD_some, decide_eq_true hPn, decide_eq_true hbz]; rfl)
                          have HGO : Hid (Y0 = (xs'.map (·.l) ++ (wlk img f (blk.extract o1 (o1 + o2)) (P : Int)).1, (wlk img f (blk.extract o1 (o1 + o2)) (P : Int)).2)) := Lib.hid (by
                            rw [HY.out, wlk_go HD.out HYD.out HBAD.out hf0 HK.out, HMAP.out, HNX.out, HBK.out, Option.getD_some, HPV.out, HL.out, List.append_assoc]
                            rfl)
                          have HX8 := Lib.hid (HX.out _ _ HX7.out (KeepsOthers.drew w7))
                          have HI8 := Lib.hid hHeld
                          have hsz2 : (blk.extract o1 (o1 + o2)).size ≤ 1000000 := by rw [ByteArray.size_extract]; omega
                          clear hHeld
                          generalize w7.drew = w8 at *
                          go_upto_region 28 with fail
                          refine wp_region_held_drew (S := (fun w' => ∃ u, WkI w Bo ((gp, 106, #[.int .i64 (P : Int), .int .i64 (o1 : Int), .int .i64 (o2 : Int)]) :: (ga, 41, cur) :: wkRows Bi Bwp Bu Bp Bw (some ⟨bi, offi, none⟩) n c u (P : Int) 0) xs' w')) (by kernel_rfl) (⟨_, HI8.out.drew⟩) (fun hHeld => ?_)
                          have HX9 := Lib.hid (HX.out _ _ HX8.out (KeepsOthers.drew w8))
                          have HI9 := Lib.hid HI8.out.drew
                          generalize w8.drew = w9 at *
                          have qu := (HI9.out.at (i := 4) rfl).cell
                          have fu := (HI9.out.at (i := 4) rfl).frozen
                          have HFI := Lib.hid (And.intro (HI9.out.set 4 rfl (by decide) 0 (.string (blk.extract o1 (o1 + o2)))) (HX.out _ _ HX9.out (KeepsOthers.setCell w9 ⟨Bu, 0, none⟩ (.string (blk.extract o1 (o1 + o2))))))
                          have g1 : (0 : Int) ≤ (o1 : Int) := by omega
                          have g2 : (o1 : Int) ≤ (o1 : Int) + (o2 : Int) := by omega
                          have g3 : (o1 : Int) + (o2 : Int) ≤ 2048 := by omega
                          have g6 : (0 : Int) ≤ (o1 : Int) + (o2 : Int) := by omega
                          have g4 : ((o1 : Int) + (o2 : Int)).toNat = o1 + o2 := by omega
                          have g5 : IntKind.i64.wrap ((o1 : Int) + (o2 : Int)) = (o1 : Int) + (o2 : Int) := IntWalk.i64_in _ (by omega)
                          refine wpAnyH_take (i := 0) (oi := ?o1) (v := ?v1) ?hi1 (by kernel_rfl) (by kernel_rfl) (by kernel_rfl) ?hq1 ?hy1 (by assumption) ?hr1
                          case hi1 => (simp only [List.getElem?_toArray, List.getElem?_cons_zero]; rfl)
                          case hy1 => ((refine .inl ⟨by rfl, ?_⟩); intro w hS; obtain ⟨u, hS⟩ := hS; have q := (hS.at (i := 2) rfl).cell; go_simp; (try with_reducible rfl))
                          case hq1 => exact fun _ _ _ h => h
                          (simp only [Act.put, List.setIfInBounds_toArray, List.set_cons_zero, List.set_cons_succ])
                          refine wpAnyH_take (i := 1) (oi := ?o2) (v := ?v2) ?hi2 (by kernel_rfl) (by kernel_rfl) (by kernel_rfl) ?hq2 ?hy2 (by assumption) ?hr2
                          case hi2 => (simp only [List.getElem?_toArray, List.getElem?_cons_succ, List.getElem?_cons_zero]; rfl)
                          case hy2 => ((refine .inl ⟨by rfl, ?_⟩); intro w hS; obtain ⟨u, hS⟩ := hS; have q := (hS.at (i := 3) rfl).cell 0; go_simp; (try with_reducible rfl))
                          case hq2 => exact fun _ _ _ h => h
                          (simp only [Act.put, List.setIfInBounds_toArray, List.set_cons_zero, List.set_cons_succ])
                          refine wpAnyH_take (i := 2) (oi := ?o3) (v := ?v3) ?hi3 (by kernel_rfl) (by kernel_rfl) (by kernel_rfl) ?hq3 ?hy3 (by assumption) ?hr3
                          case hi3 => (simp only [List.getElem?_toArray, List.getElem?_cons_succ, List.getElem?_cons_zero]; rfl)
                          case hy3 => ((refine .inl ⟨by rfl, ?_⟩); intro w hS; go_simp; (try with_reducible rfl))
                          case hq3 => exact fun _ _ _ h => h
                          (simp only [Act.put, List.setIfInBounds_toArray, List.set_cons_zero, List.set_cons_succ])
                          refine wpAnyH_take (i := 3) (oi := ?o4) (v := ?v4) ?hi4 (by kernel_rfl) (by kernel_rfl) (by kernel_rfl) ?hq4 ?hy4 (by assumption) ?hr4
                          case hi4 => (simp only [List.getElem?_toArray, List.getElem?_cons_succ, List.getElem?_cons_zero]; rfl)
                          case hy4 => ((refine .inl ⟨by rfl, ?_⟩); intro w hS; go_simp; (try with_reducible rfl))
                          case hq4 => exact fun _ _ _ h => h
                          (simp only [Act.put, List.setIfInBounds_toArray, List.set_cons_zero, List.set_cons_succ])
                          refine wpAnyH_take (i := 4) (oi := ?o5) (v := ?v5) ?hi5 (by kernel_rfl) (by kernel_rfl) (by kernel_rfl) ?hq5 ?hy5 (by assumption) ?hr5
                          case hi5 => (simp only [List.getElem?_toArray, List.getElem?_cons_succ, List.getElem?_cons_zero]; rfl)
                          case hy5 => ((refine .inl ⟨by rfl, ?_⟩); intro w hS; obtain ⟨u, hS⟩ := hS; have q := (hS.at (i := 6) rfl).cell; go_simp; (try with_reducible rfl))
                          case hq5 => exact fun _ _ _ h => h
                          (simp only [Act.put, List.setIfInBounds_toArray, List.set_cons_zero, List.set_cons_succ])
                          refine wpAnyH_take (i := 5) (oi := ?o6) (v := ?v6) ?hi6 (by kernel_rfl) (by kernel_rfl) (by kernel_rfl) ?hq6 ?hy6 (by assumption) ?hr6
                          case hi6 => (simp only [List.getElem?_toArray, List.getElem?_cons_succ, List.getElem?_cons_zero]; rfl)
                          case hy6 => ((refine .inl ⟨by rfl, ?_⟩); intro w hS; go_simp; (try with_reducible rfl))
                          case hq6 => exact fun _ _ _ h => h
                          (simp only [Act.put, List.setIfInBounds_toArray, List.set_cons_zero, List.set_cons_succ])
                          refine wpAnyH_take (i := 6) (oi := ?o7) (v := ?v7) ?hi7 (by kernel_rfl) (by kernel_rfl) (by kernel_rfl) ?hq7 ?hy7 (by assumption) ?hr7
                          case hi7 => (simp only [List.getElem?_toArray, List.getElem?_cons_succ, List.getElem?_cons_zero]; rfl)
                          case hy7 => ((refine .inl ⟨by rfl, ?_⟩); intro w hS; obtain ⟨u, hS⟩ := hS; have q := HIMW.out _ hS.bel; go_simp; (try with_reducible rfl))
                          case hq7 => exact fun _ _ _ h => h
                          (simp only [Act.put, List.setIfInBounds_toArray, List.set_cons_zero, List.set_cons_succ])
                          refine wpAnyH_take (i := 7) (oi := ?o8) (v := ?v8) ?hi8 (by kernel_rfl) (by kernel_rfl) (by kernel_rfl) ?hq8 ?hy8 (by assumption) ?hr8
                          case hi8 => (simp only [List.getElem?_toArray, List.getElem?_cons_succ, List.getElem?_cons_zero]; rfl)
                          case hy8 => ((refine .inl ⟨by rfl, ?_⟩); intro w hS; go_simp; (try with_reducible rfl))
                          case hq8 => exact fun _ _ _ h => h
                          (simp only [Act.put, List.setIfInBounds_toArray, List.set_cons_zero, List.set_cons_succ])
                          refine wpAnyH_take (i := 8) (oi := ?o9) (v := ?v9) ?hi9 (by kernel_rfl) (by kernel_rfl) (by kernel_rfl) ?hq9 ?hy9 (by assumption) ?hr9
                          case hi9 => (simp only [List.getElem?_toArray, List.getElem?_cons_succ, List.getElem?_cons_zero]; rfl)
                          case hy9 => ((refine .inl ⟨by rfl, ?_⟩); intro w hS; obtain ⟨u, hS⟩ := hS; have q := (hS.at (i := 0) rfl).cell; go_simp; (try with_reducible rfl))
                          case hq9 => exact fun _ _ _ h => h
                          (simp only [Act.put, List.setIfInBounds_toArray, List.set_cons_zero, List.set_cons_succ])
                          refine wpAnyH_take (i := 9) (oi := ?o10) (v := ?v10) ?hi10 (by kernel_rfl) (by kernel_rfl) (by kernel_rfl) ?hq10 ?hy10 (by assumption) ?hr10
                          case hi10 => (simp only [List.getElem?_toArray, List.getElem?_cons_succ, List.getElem?_cons_zero]; rfl)
                          case hy10 => ((refine .inl ⟨by rfl, ?_⟩); intro w hS; go_simp; (try with_reducible rfl))
                          case hq10 => exact fun _ _ _ h => h
                          (simp only [Act.put, List.setIfInBounds_toArray, List.set_cons_zero, List.set_cons_succ])
                          refine wpAnyH_take (i := 10) (oi := ?o11) (v := ?v11) ?hi11 (by kernel_rfl) (by kernel_rfl) (by kernel_rfl) ?hq11 ?hy11 (by assumption) ?hr11
                          case hi11 => (simp only [List.getElem?_toArray, List.getElem?_cons_succ, List.getElem?_cons_zero]; rfl)
                          case hy11 => ((refine .inl ⟨by rfl, ?_⟩); intro w hS; obtain ⟨u, hS⟩ := hS; have q := (hS.at (i := 0) rfl).cell; go_simp; (try with_reducible rfl))
                          case hq11 => exact fun _ _ _ h => h
                          (simp only [Act.put, List.setIfInBounds_toArray, List.set_cons_zero, List.set_cons_succ])
                          refine wpAnyH_take (i := 11) (oi := ?o12) (v := ?v12) ?hi12 (by kernel_rfl) (by kernel_rfl) (by kernel_rfl) ?hq12 ?hy12 (by assumption) ?hr12
                          case hi12 => (simp only [List.getElem?_toArray, List.getElem?_cons_succ, List.getElem?_cons_zero]; rfl)
                          case hy12 => ((refine .inl ⟨by rfl, ?_⟩); intro w hS; go_simp; (try with_reducible rfl))
                          case hq12 => exact fun _ _ _ h => h
                          (simp only [Act.put, List.setIfInBounds_toArray, List.set_cons_zero, List.set_cons_succ])
                          refine wpAnyH_take (i := 12) (oi := ?o13) (v := ?v13) ?hi13 (by kernel_rfl) (by kernel_rfl) (by kernel_rfl) ?hq13 ?hy13 (by assumption) ?hr13
                          case hi13 => (simp only [List.getElem?_toArray, List.getElem?_cons_succ, List.getElem?_cons_zero]; rfl)
                          case hy13 => ((refine .inl ⟨by rfl, ?_⟩); intro w hS; obtain ⟨u, hS⟩ := hS; have q := (hS.at (i := 0) rfl).cell; go_simp; (try with_reducible rfl))
                          case hq13 => exact fun _ _ _ h => h
                          (simp only [Act.put, List.setIfInBounds_toArray, List.set_cons_zero, List.set_cons_succ])
                          refine wpAnyH_take (i := 13) (oi := ?o14) (v := ?v14) ?hi14 (by kernel_rfl) (by kernel_rfl) (by kernel_rfl) ?hq14 ?hy14 (by assumption) ?hr14
                          case hi14 => (simp only [List.getElem?_toArray, List.getElem?_cons_succ, List.getElem?_cons_zero]; rfl)
                          case hy14 => ((refine .inl ⟨by rfl, ?_⟩); intro w hS; go_simp; (try with_reducible rfl))
                          case hq14 => exact fun _ _ _ h => h
                          (simp only [Act.put, List.setIfInBounds_toArray, List.set_cons_zero, List.set_cons_succ])
                          refine wpAnyH_take (i := 14) (oi := ?o15) (v := ?v15) ?hi15 (by kernel_rfl) (by kernel_rfl) (by kernel_rfl) ?hq15 ?hy15 (by assumption) ?hr15
                          case hi15 => (simp only [List.getElem?_toArray, List.getElem?_cons_succ, List.getElem?_cons_zero]; rfl)
                          case hy15 => ((refine .inl ⟨by rfl, ?_⟩); intro w hS; go_simp; (try with_reducible rfl))
                          case hq15 => exact fun _ _ _ h => h
                          (simp only [Act.put, List.setIfInBounds_toArray, List.set_cons_zero, List.set_cons_succ])
                          refine wpAnyH_ready (rs := [15]) (by kernel_rfl) (by simp) ?_
                          refine AllReadyH.cons rfl (fun K hK => ?_) AllReadyH.nil
                          go_simp
                          refine hK.out _ _ (⟨_, HFI.out.1⟩) (fun hHeld1 => ?_)
                          clear hK K
                          (try simp only [Act.put, List.setIfInBounds_toArray, List.set_cons_zero, List.set_cons_succ])
                          clear hHeld; have hHeld := hHeld1; clear hHeld1
                          refine wpAnyH_done (by kernel_rfl) ?_ _
                          clear g5 g4 qu fu hHeld
                          generalize w9.setCell ⟨Bu, 0, none⟩ (.string (blk.extract o1 (o1 + o2))) = wz at *
                          go_wp2_with fail
                          exact ⟨⟨k + 1, blk.extract o1 (o1 + o2), (P : Int), xs', by omega, by simp, HFI.out.1.drop1.drop1, HFI.out.2, Lib.hid (by rw [show 65 - (k + 1) = f by have := HF.out; omega]; exact HGO.out), hsz2⟩, by simp [intOf]; omega⟩
                        · have hbzB : ((blk.size : Int) != 2048) = true := by simp; omega
                          go_upto_region 26 with fail
                          refine wp_region_held_drew (S := (fun w' => WkI w Bo ((gp, 106, #[.int .i64 (P : Int), .int .i64 (o1 : Int), .int .i64 (o2 : Int)]) :: (ga, 41, cur) :: wkRows Bi Bwp Bu Bp Bw (some ⟨bi, offi, none⟩) n c use (P : Int) 0) xs' w')) (by kernel_rfl) (HI7.out.drew) (fun hHeld => ?_)
                          refine wpAnyH_take (i := 0) (oi := ?o35) (v := ?v35) ?hi35 (by kernel_rfl) (by kernel_rfl) (by kernel_rfl) ?hq35 ?hy35 (by assumption) ?hr35
                          case hi35 => (simp only [List.getElem?_toArray, List.getElem?_cons_zero]; rfl)
                          case hy35 => ((refine .inl ⟨by rfl, ?_⟩); intro w hS; have q := (hS.at (i := 3) rfl).cell 0; go_simp; (try with_reducible rfl))
                          case hq35 => exact fun _ _ _ h => h
                          (simp only [Act.put, List.setIfInBounds_toArray, List.set_cons_zero, List.set_cons_succ])
                          refine wpAnyH_take (i := 1) (oi := ?o36) (v := ?v36) ?hi36 (by kernel_rfl) (by kernel_rfl) (by kernel_rfl) ?hq36 ?hy36 (by assumption) ?hr36
                          case hi36 => (simp only [List.getElem?_toArray, List.getElem?_cons_succ, List.getElem?_cons_zero]; rfl)
                          case hy36 => ((refine .inl ⟨by rfl, ?_⟩); intro w hS; go_simp; (try with_reducible rfl))
                          case hq36 => exact fun _ _ _ h => h
                          (simp only [Act.put, List.setIfInBounds_toArray, List.set_cons_zero, List.set_cons_succ])
                          refine wpAnyH_take (i := 2) (oi := ?o37) (v := ?v37) ?hi37 (by kernel_rfl) (by kernel_rfl) (by kernel_rfl) ?hq37 ?hy37 (by assumption) ?hr37
                          case hi37 => (simp only [List.getElem?_toArray, List.getElem?_cons_succ, List.getElem?_cons_zero]; rfl)
                          case hy37 => ((refine .inl ⟨by rfl, ?_⟩); intro w hS; go_simp; (try with_reducible rfl))
                          case hq37 => exact fun _ _ _ h => h
                          (simp only [Act.put, List.setIfInBounds_toArray, List.set_cons_zero, List.set_cons_succ])
                          refine wpAnyH_take (i := 3) (oi := ?o38) (v := ?v38) ?hi38 (by kernel_rfl) (by kernel_rfl) (by kernel_rfl) ?hq38 ?hy38 (by assumption) ?hr38
                          case hi38 => (simp only [List.getElem?_toArray, List.getElem?_cons_succ, List.getElem?_cons_zero]; rfl)
                          case hy38 => ((refine .inl ⟨by rfl, ?_⟩); intro w hS; have q := (hS.at (i := 6) rfl).cell; go_simp; (try with_reducible rfl))
                          case hq38 => exact fun _ _ _ h => h
                          (simp only [Act.put, List.setIfInBounds_toArray, List.set_cons_zero, List.set_cons_succ])
                          refine wpAnyH_take (i := 4) (oi := ?o39) (v := ?v39) ?hi39 (by kernel_rfl) (by kernel_rfl) (by kernel_rfl) ?hq39 ?hy39 (by assumption) ?hr39
                          case hi39 => (simp only [List.getElem?_toArray, List.getElem?_cons_succ, List.getElem?_cons_zero]; rfl)
                          case hy39 => ((refine .inl ⟨by rfl, ?_⟩); intro w hS; have q := (hS.at (i := 2) rfl).cell; go_simp; (try with_reducible rfl))
                          case hq39 => exact fun _ _ _ h => h
                          (simp only [Act.put, List.setIfInBounds_toArray, List.set_cons_zero, List.set_cons_succ])
                          refine wpAnyH_take (i := 5) (oi := ?o40) (v := ?v40) ?hi40 (by kernel_rfl) (by kernel_rfl) (by kernel_rfl) ?hq40 ?hy40 (by assumption) ?hr40
                          case hi40 => (simp only [List.getElem?_toArray, List.getElem?_cons_succ, List.getElem?_cons_zero]; rfl)
                          case hy40 => ((refine .inl ⟨by rfl, ?_⟩); intro w hS; go_simp; (try with_reducible rfl))
                          case hq40 => exact fun _ _ _ h => h
                          (simp only [Act.put, List.setIfInBounds_toArray, List.set_cons_zero, List.set_cons_succ])
                          refine wpAnyH_take (i := 6) (oi := ?o41) (v := ?v41) ?hi41 (by kernel_rfl) (by kernel_rfl) (by kernel_rfl) ?hq41 ?hy41 (by assumption) ?hr41
                          case hi41 => (simp only [List.getElem?_toArray, List.getElem?_cons_succ, List.getElem?_cons_zero]; rfl)
                          case hy41 => ((refine .inl ⟨by rfl, ?_⟩); intro w hS; go_simp; (try with_reducible rfl))
                          case hq41 => exact fun _ _ _ h => h
                          (simp only [Act.put, List.setIfInBounds_toArray, List.set_cons_zero, List.set_cons_succ])
                          refine wpAnyH_take (i := 7) (oi := ?o42) (v := ?v42) ?hi42 (by kernel_rfl) (by kernel_rfl) (by kernel_rfl) ?hq42 ?hy42 (by assumption) ?hr42
                          case hi42 => (simp only [List.getElem?_toArray, List.getElem?_cons_succ, List.getElem?_cons_zero]; rfl)
                          case hy42 => ((refine .inl ⟨by rfl, ?_⟩); intro w hS; go_simp; (try with_reducible rfl))
                          case hq42 => exact fun _ _ _ h => h
                          (simp only [Act.put, List.setIfInBounds_toArray, List.set_cons_zero, List.set_cons_succ])
                          refine wpAnyH_take (i := 8) (oi := ?o43) (v := ?v43) ?hi43 (by kernel_rfl) (by kernel_rfl) (by kernel_rfl) ?hq43 ?hy43 (by assumption) ?hr43
                          case hi43 => (simp only [List.getElem?_toArray, List.getElem?_cons_succ, List.getElem?_cons_zero]; rfl)
                          case hy43 => ((refine .inl ⟨by rfl, ?_⟩); intro w hS; have q := (hS.at (i := 2) rfl).cell; go_simp; (try with_reducible rfl))
                          case hq43 => exact fun _ _ _ h => h
                          (simp only [Act.put, List.setIfInBounds_toArray, List.set_cons_zero, List.set_cons_succ])
                          refine wpAnyH_take (i := 9) (oi := ?o44) (v := ?v44) ?hi44 (by kernel_rfl) (by kernel_rfl) (by kernel_rfl) ?hq44 ?hy44 (by assumption) ?hr44
                          case hi44 => (simp only [List.getElem?_toArray, List.getElem?_cons_succ, List.getElem?_cons_zero]; rfl)
                          case hy44 => ((refine .inl ⟨by rfl, ?_⟩); intro w hS; have q := (hS.at (i := 3) rfl).cell 0; go_simp; (try with_reducible rfl))
                          case hq44 => exact fun _ _ _ h => h
                          (simp only [Act.put, List.setIfInBounds_toArray, List.set_cons_zero, List.set_cons_succ])
                          refine wpAnyH_take (i := 10) (oi := ?o45) (v := ?v45) ?hi45 (by kernel_rfl) (by kernel_rfl) (by kernel_rfl) ?hq45 ?hy45 (by assumption) ?hr45
                          case hi45 => (simp only [List.getElem?_toArray, List.getElem?_cons_succ, List.getElem?_cons_zero]; rfl)
                          case hy45 => ((refine .inl ⟨by rfl, ?_⟩); intro w hS; go_simp; (try with_reducible rfl))
                          case hq45 => exact fun _ _ _ h => h
                          (simp only [Act.put, List.setIfInBounds_toArray, List.set_cons_zero, List.set_cons_succ])
                          refine wpAnyH_take (i := 11) (oi := ?o46) (v := ?v46) ?hi46 (by kernel_rfl) (by kernel_rfl) (by kernel_rfl) ?hq46 ?hy46 (by assumption) ?hr46
                          case hi46 => (simp only [List.getElem?_toArray, List.getElem?_cons_succ, List.getElem?_cons_zero]; rfl)
                          case hy46 => ((refine .inl ⟨by rfl, ?_⟩); intro w hS; go_simp; (try with_reducible rfl))
                          case hq46 => exact fun _ _ _ h => h
                          (simp only [Act.put, List.setIfInBounds_toArray, List.set_cons_zero, List.set_cons_succ])
                          refine wpAnyH_take (i := 12) (oi := ?o47) (v := ?v47) ?hi47 (by kernel_rfl) (by kernel_rfl) (by kernel_rfl) ?hq47 ?hy47 (by assumption) ?hr47
                          case hi47 => (simp only [List.getElem?_toArray, List.getElem?_cons_succ, List.getElem?_cons_zero]; rfl)
                          case hy47 => ((refine .inl ⟨by rfl, ?_⟩); intro w hS; have q := (hS.at (i := 6) rfl).cell; go_simp; (try with_reducible rfl))
                          case hq47 => exact fun _ _ _ h => h
                          (simp only [Act.put, List.setIfInBounds_toArray, List.set_cons_zero, List.set_cons_succ])
                          refine wpAnyH_take (i := 13) (oi := ?o48) (v := ?v48) ?hi48 (by kernel_rfl) (by kernel_rfl) (by kernel_rfl) ?hq48 ?hy48 (by assumption) ?hr48
                          case hi48 => (simp only [List.getElem?_toArray, List.getElem?_cons_succ, List.getElem?_cons_zero]; rfl)
                          case hy48 => ((refine .inl ⟨by rfl, ?_⟩); intro w hS; go_simp; (try with_reducible rfl))
                          case hq48 => exact fun _ _ _ h => h
                          (simp only [Act.put, List.setIfInBounds_toArray, List.set_cons_zero, List.set_cons_succ])
                          refine wpAnyH_take (i := 14) (oi := ?o49) (v := ?v49) ?hi49 (by kernel_rfl) (by kernel_rfl) (by kernel_rfl) ?hq49 ?hy49 (by assumption) ?hr49
                          case hi49 => (simp only [List.getElem?_toArray, List.getElem?_cons_succ, List.getElem?_cons_zero]; rfl)
                          case hy49 => ((refine .inl ⟨by rfl, ?_⟩); intro w hS; have q := HIMW.out _ hS.bel; go_simp; (try with_reducible rfl))
                          case hq49 => exact fun _ _ _ h => h
                          (simp only [Act.put, List.setIfInBounds_toArray, List.set_cons_zero, List.set_cons_succ])
                          refine wpAnyH_take (i := 15) (oi := ?o50) (v := ?v50) ?hi50 (by kernel_rfl) (by kernel_rfl) (by kernel_rfl) ?hq50 ?hy50 (by assumption) ?hr50
                          case hi50 => (simp only [List.getElem?_toArray, List.getElem?_cons_succ, List.getElem?_cons_zero]; rfl)
                          case hy50 => ((refine .inl ⟨by rfl, ?_⟩); intro w hS; go_simp; (try with_reducible rfl))
                          case hq50 => exact fun _ _ _ h => h
                          (simp only [Act.put, List.setIfInBounds_toArray, List.set_cons_zero, List.set_cons_succ])
                          refine wpAnyH_take (i := 16) (oi := ?o51) (v := ?v51) ?hi51 (by kernel_rfl) (by kernel_rfl) (by kernel_rfl) ?hq51 ?hy51 (by assumption) ?hr51
                          case hi51 => (simp only [List.getElem?_toArray, List.getElem?_cons_succ, List.getElem?_cons_zero]; rfl)
                          case hy51 => ((refine .inl ⟨by rfl, ?_⟩); intro w hS; go_simp; (try with_reducible rfl))
                          case hq51 => exact fun _ _ _ h => h
                          (simp only [Act.put, List.setIfInBounds_toArray, List.set_cons_zero, List.set_cons_succ])
                          refine wpAnyH_take (i := 17) (oi := ?o52) (v := ?v52) ?hi52 (by kernel_rfl) (by kernel_rfl) (by kernel_rfl) ?hq52 ?hy52 (by assumption) ?hr52
                          case hi52 => (simp only [List.getElem?_toArray, List.getElem?_cons_succ, List.getElem?_cons_zero]; rfl)
                          case hy52 => ((refine .inl ⟨by rfl, ?_⟩); intro w hS; go_simp; (try with_reducible rfl))
                          case hq52 => exact fun _ _ _ h => h
                          (simp only [Act.put, List.setIfInBounds_toArray, List.set_cons_zero, List.set_cons_succ])
                          refine wpAnyH_take (i := 18) (oi := ?o53) (v := ?v53) ?hi53 (by kernel_rfl) (by kernel_rfl) (by kernel_rfl) ?hq53 ?hy53 (by assumption) ?hr53
                          case hi53 => (simp only [List.getElem?_toArray, List.getElem?_cons_succ, List.getElem?_cons_zero]; rfl)
                          case hy53 => ((refine .inl ⟨by rfl, ?_⟩); intro w hS; go_simp; (try with_reducible rfl))
                          case hq53 => exact fun _ _ _ h => h
                          (simp only [Act.put, List.setIfInBounds_toArray, List.set_cons_zero, List.set_cons_succ])
                          refine wpAnyH_done (by kernel_rfl) ?_ _
                          have HK : Hid (hasBlk img (plcV (lnkD (decL use) i) 0) = false) := Lib.hid (by
                            rw [HHB.out]
                            first | (rw [HBK.out, Option.getD_some, decide_eq_false hbz, Bool.and_false]) | (rw [decide_eq_false hPn, Bool.false_and]))
                          have HFIN : Hid (Y0 = (xs'.map (·.l), ((P : Int), 9))) := Lib.hid (by rw [HY.out, wlk_lost HD.out HYD.out HBAD.out hf0 HK.out, HMAP.out, HDD2.out, HL.out, HP0.out])
                          have E7 := Lib.hid (And.intro (hHeld.set 6 rfl (by decide) 1 (.int .i64 9)).drop1.drop1 (HX.out _ _ (HX.out _ _ HX7.out (KeepsOthers.drew w7)) (KeepsOthers.setCell _ ⟨Bw, 1, none⟩ (.int .i64 9))))
                          have qw := (hHeld.at (i := 3) rfl).cell 0
                          have q4 := (hHeld.at (i := 6) rfl).cell
                          have f4 := (hHeld.at (i := 6) rfl).frozen
                          clear hHeld
                          generalize w7.drew = w8 at *
                          go_wp2_with fail
                          refine bodyPost_ret (results_none rfl _ _ _) rfl ?_
                          exact ⟨⟨_, rfl⟩, _, xs', ⟨by rw [HFIN.out], use, by rw [HFIN.out]; rfl⟩, E7.out⟩
                      · have hPnI : (n : Int) ≤ (P : Int) := by omega
                        go_upto_region 26 with fail
                        refine wp_region_held_drew (S := (fun w' => WkI w Bo ((gp, 106, #[.int .i64 (P : Int), .int .i64 (o1 : Int), .int .i64 (o2 : Int)]) :: (ga, 41, cur) :: wkRows Bi Bwp Bu Bp Bw A n c use (P : Int) 0) xs' w')) (by kernel_rfl) (HI7.out.drew) (fun hHeld => ?_)
                        refine wpAnyH_take (i := 0) (oi := ?o54) (v := ?v54) ?hi54 (by kernel_rfl) (by kernel_rfl) (by kernel_rfl) ?hq54 ?hy54 (by assumption) ?hr54
                        case hi54 => (simp only [List.getElem?_toArray, List.getElem?_cons_zero]; rfl)
                        case hy54 => ((refine .inl ⟨by rfl, ?_⟩); intro w hS; have q := (hS.at (i := 3) rfl).cell 0; go_simp; (try with_reducible rfl))
                        case hq54 => exact fun _ _ _ h => h
                        (simp only [Act.put, List.setIfInBounds_toArray, List.set_cons_zero, List.set_cons_succ])
                        refine wpAnyH_take (i := 1) (oi := ?o55) (v := ?v55) ?hi55 (by kernel_rfl) (by kernel_rfl) (by kernel_rfl) ?hq55 ?hy55 (by assumption) ?hr55
                        case hi55 => (simp only [List.getElem?_toArray, List.getElem?_cons_succ, List.getElem?_cons_zero]; rfl)
                        case hy55 => ((refine .inl ⟨by rfl, ?_⟩); intro w hS; go_simp; (try with_reducible rfl))
                        case hq55 => exact fun _ _ _ h => h
                        (simp only [Act.put, List.setIfInBounds_toArray, List.set_cons_zero, List.set_cons_succ])
                        refine wpAnyH_take (i := 2) (oi := ?o56) (v := ?v56) ?hi56 (by kernel_rfl) (by kernel_rfl) (by kernel_rfl) ?hq56 ?hy56 (by assumption) ?hr56
                        case hi56 => (simp only [List.getElem?_toArray, List.getElem?_cons_succ, List.getElem?_cons_zero]; rfl)
                        case hy56 => ((refine .inl ⟨by rfl, ?_⟩); intro w hS; go_simp; (try with_reducible rfl))
                        case hq56 => exact fun _ _ _ h => h
                        (simp only [Act.put, List.setIfInBounds_toArray, List.set_cons_zero, List.set_cons_succ])
                        refine wpAnyH_take (i := 3) (oi := ?o57) (v := ?v57) ?hi57 (by kernel_rfl) (by kernel_rfl) (by kernel_rfl) ?hq57 ?hy57 (by assumption) ?hr57
                        case hi57 => (simp only [List.getElem?_toArray, List.getElem?_cons_succ, List.getElem?_cons_zero]; rfl)
                        case hy57 => ((refine .inl ⟨by rfl, ?_⟩); intro w hS; have q := (hS.at (i := 6) rfl).cell; go_simp; (try with_reducible rfl))
                        case hq57 => exact fun _ _ _ h => h
                        (simp only [Act.put, List.setIfInBounds_toArray, List.set_cons_zero, List.set_cons_succ])
                        refine wpAnyH_take (i := 4) (oi := ?o58) (v := ?v58) ?hi58 (by kernel_rfl) (by kernel_rfl) (by kernel_rfl) ?hq58 ?hy58 (by assumption) ?hr58
                        case hi58 => (simp only [List.getElem?_toArray, List.getElem?_cons_succ, List.getElem?_cons_zero]; rfl)
                        case hy58 => ((refine .inl ⟨by rfl, ?_⟩); intro w hS; have q := (hS.at (i := 2) rfl).cell; go_simp; (try with_reducible rfl))
                        case hq58 => exact fun _ _ _ h => h
                        (simp only [Act.put, List.setIfInBounds_toArray, List.set_cons_zero, List.set_cons_succ])
                        refine wpAnyH_take (i := 5) (oi := ?o59) (v := ?v59) ?hi59 (by kernel_rfl) (by kernel_rfl) (by kernel_rfl) ?hq59 ?hy59 (by assumption) ?hr59
                        case hi59 => (simp only [List.getElem?_toArray, List.getElem?_cons_succ, List.getElem?_cons_zero]; rfl)
                        case hy59 => ((refine .inl ⟨by rfl, ?_⟩); intro w hS; go_simp; (try with_reducible rfl))
                        case hq59 => exact fun _ _ _ h => h
                        (simp only [Act.put, List.setIfInBounds_toArray, List.set_cons_zero, List.set_cons_succ])
                        refine wpAnyH_take (i := 6) (oi := ?o60) (v := ?v60) ?hi60 (by kernel_rfl) (by kernel_rfl) (by kernel_rfl) ?hq60 ?hy60 (by assumption) ?hr60
                        case hi60 => (simp only [List.getElem?_toArray, List.getElem?_cons_succ, List.getElem?_cons_zero]; rfl)
                        case hy60 => ((refine .inl ⟨by rfl, ?_⟩); intro w hS; go_simp; (try with_reducible rfl))
                        case hq60 => exact fun _ _ _ h => h
                        (simp only [Act.put, List.setIfInBounds_toArray, List.set_cons_zero, List.set_cons_succ])
                        refine wpAnyH_take (i := 7) (oi := ?o61) (v := ?v61) ?hi61 (by kernel_rfl) (by kernel_rfl) (by kernel_rfl) ?hq61 ?hy61 (by assumption) ?hr61
                        case hi61 => (simp only [List.getElem?_toArray, List.getElem?_cons_succ, List.getElem?_cons_zero]; rfl)
                        case hy61 => ((refine .inl ⟨by rfl, ?_⟩); intro w hS; go_simp; (try with_reducible rfl))
                        case hq61 => exact fun _ _ _ h => h
                        (simp only [Act.put, List.setIfInBounds_toArray, List.set_cons_zero, List.set_cons_succ])
                        refine wpAnyH_take (i := 8) (oi := ?o62) (v := undef) ?hi62 (by kernel_rfl) (by kernel_rfl) (by kernel_rfl) ?hq62 ?hy62 (by assumption) ?hr62
                        case hi62 => (simp only [List.getElem?_toArray, List.getElem?_cons_succ, List.getElem?_cons_zero]; rfl)
                        case hy62 => exact .inr ⟨by rfl, rfl⟩
                        case hq62 => exact fun _ _ _ h => h
                        (simp only [Act.put, List.setIfInBounds_toArray, List.set_cons_zero, List.set_cons_succ])
                        refine wpAnyH_take (i := 9) (oi := ?o63) (v := undef) ?hi63 (by kernel_rfl) (by kernel_rfl) (by kernel_rfl) ?hq63 ?hy63 (by assumption) ?hr63
                        case hi63 => (simp only [List.getElem?_toArray, List.getElem?_cons_succ, List.getElem?_cons_zero]; rfl)
                        case hy63 => exact .inr ⟨by rfl, rfl⟩
                        case hq63 => exact fun _ _ _ h => h
                        (simp only [Act.put, List.setIfInBounds_toArray, List.set_cons_zero, List.set_cons_succ])
                        refine wpAnyH_take (i := 10) (oi := ?o64) (v := undef) ?hi64 (by kernel_rfl) (by kernel_rfl) (by kernel_rfl) ?hq64 ?hy64 (by assumption) ?hr64
                        case hi64 => (simp only [List.getElem?_toArray, List.getElem?_cons_succ, List.getElem?_cons_zero]; rfl)
                        case hy64 => exact .inr ⟨by rfl, rfl⟩
                        case hq64 => exact fun _ _ _ h => h
                        (simp only [Act.put, List.setIfInBounds_toArray, List.set_cons_zero, List.set_cons_succ])
                        refine wpAnyH_take (i := 11) (oi := ?o65) (v := undef) ?hi65 (by kernel_rfl) (by kernel_rfl) (by kernel_rfl) ?hq65 ?hy65 (by assumption) ?hr65
                        case hi65 => (simp only [List.getElem?_toArray, List.getElem?_cons_succ, List.getElem?_cons_zero]; rfl)
                        case hy65 => exact .inr ⟨by rfl, rfl⟩
                        case hq65 => exact fun _ _ _ h => h
                        (simp only [Act.put, List.setIfInBounds_toArray, List.set_cons_zero, List.set_cons_succ])
                        refine wpAnyH_take (i := 12) (oi := ?o66) (v := undef) ?hi66 (by kernel_rfl) (by kernel_rfl) (by kernel_rfl) ?hq66 ?hy66 (by assumption) ?hr66
                        case hi66 => (simp only [List.getElem?_toArray, List.getElem?_cons_succ, List.getElem?_cons_zero]; rfl)
                        case hy66 => exact .inr ⟨by rfl, rfl⟩
                        case hq66 => exact fun _ _ _ h => h
                        (simp only [Act.put, List.setIfInBounds_toArray, List.set_cons_zero, List.set_cons_succ])
                        refine wpAnyH_take (i := 13) (oi := ?o67) (v := undef) ?hi67 (by kernel_rfl) (by kernel_rfl) (by kernel_rfl) ?hq67 ?hy67 (by assumption) ?hr67
                        case hi67 => (simp only [List.getElem?_toArray, List.getElem?_cons_succ, List.getElem?_cons_zero]; rfl)
                        case hy67 => exact .inr ⟨by rfl, rfl⟩
                        case hq67 => exact fun _ _ _ h => h
                        (simp only [Act.put, List.setIfInBounds_toArray, List.set_cons_zero, List.set_cons_succ])
                        refine wpAnyH_take (i := 14) (oi := ?o68) (v := undef) ?hi68 (by kernel_rfl) (by kernel_rfl) (by kernel_rfl) ?hq68 ?hy68 (by assumption) ?hr68
                        case hi68 => (simp only [List.getElem?_toArray, List.getElem?_cons_succ, List.getElem?_cons_zero]; rfl)
                        case hy68 => exact .inr ⟨by rfl, rfl⟩
                        case hq68 => exact fun _ _ _ h => h
                        (simp only [Act.put, List.setIfInBounds_toArray, List.set_cons_zero, List.set_cons_succ])
                        refine wpAnyH_take (i := 15) (oi := ?o69) (v := undef) ?hi69 (by kernel_rfl) (by kernel_rfl) (by kernel_rfl) ?hq69 ?hy69 (by assumption) ?hr69
                        case hi69 => (simp only [List.getElem?_toArray, List.getElem?_cons_succ, List.getElem?_cons_zero]; rfl)
                        case hy69 => exact .inr ⟨by rfl, rfl⟩
                        case hq69 => exact fun _ _ _ h => h
                        (simp only [Act.put, List.setIfInBounds_toArray, List.set_cons_zero, List.set_cons_succ])
                        refine wpAnyH_take (i := 16) (oi := ?o70) (v := undef) ?hi70 (by kernel_rfl) (by kernel_rfl) (by kernel_rfl) ?hq70 ?hy70 (by assumption) ?hr70
                        case hi70 => (simp only [List.getElem?_toArray, List.getElem?_cons_succ, List.getElem?_cons_zero]; rfl)
                        case hy70 => exact .inr ⟨by rfl, rfl⟩
                        case hq70 => exact fun _ _ _ h => h
                        (simp only [Act.put, List.setIfInBounds_toArray, List.set_cons_zero, List.set_cons_succ])
                        refine wpAnyH_take (i := 17) (oi := ?o71) (v := ?v71) ?hi71 (by kernel_rfl) (by kernel_rfl) (by kernel_rfl) ?hq71 ?hy71 (by assumption) ?hr71
                        case hi71 => (simp only [List.getElem?_toArray, List.getElem?_cons_succ, List.getElem?_cons_zero]; rfl)
                        case hy71 => ((refine .inl ⟨by rfl, ?_⟩); intro w hS; go_simp; (try with_reducible rfl))
                        case hq71 => exact fun _ _ _ h => h
                        (simp only [Act.put, List.setIfInBounds_toArray, List.set_cons_zero, List.set_cons_succ])
                        refine wpAnyH_take (i := 18) (oi := ?o72) (v := ?v72) ?hi72 (by kernel_rfl) (by kernel_rfl) (by kernel_rfl) ?hq72 ?hy72 (by assumption) ?hr72
                        case hi72 => (simp only [List.getElem?_toArray, List.getElem?_cons_succ, List.getElem?_cons_zero]; rfl)
                        case hy72 => ((refine .inl ⟨by rfl, ?_⟩); intro w hS; go_simp; (try with_reducible rfl))
                        case hq72 => exact fun _ _ _ h => h
                        (simp only [Act.put, List.setIfInBounds_toArray, List.set_cons_zero, List.set_cons_succ])
                        refine wpAnyH_done (by kernel_rfl) ?_ _
                        have HK : Hid (hasBlk img (plcV (lnkD (decL use) i) 0) = false) := Lib.hid (by
                          rw [HHB.out]
                          first | (rw [HBK.out, Option.getD_some, decide_eq_false hbz, Bool.and_false]) | (rw [decide_eq_false hPn, Bool.false_and]))
                        have HFIN : Hid (Y0 = (xs'.map (·.l), ((P : Int), 9))) := Lib.hid (by rw [HY.out, wlk_lost HD.out HYD.out HBAD.out hf0 HK.out, HMAP.out, HDD2.out, HL.out, HP0.out])
                        have E7 := Lib.hid (And.intro (hHeld.set 6 rfl (by decide) 1 (.int .i64 9)).drop1.drop1 (HX.out _ _ (HX.out _ _ HX7.out (KeepsOthers.drew w7)) (KeepsOthers.setCell _ ⟨Bw, 1, none⟩ (.int .i64 9))))
                        have qw := (hHeld.at (i := 3) rfl).cell 0
                        have q4 := (hHeld.at (i := 6) rfl).cell
                        have f4 := (hHeld.at (i := 6) rfl).frozen
                        clear hHeld
                        generalize w7.drew = w8 at *
                        go_wp2_with fail
                        refine bodyPost_ret (results_none rfl _ _ _) rfl ?_
                        exact ⟨⟨_, rfl⟩, _, xs', ⟨by rw [HFIN.out], use, by rw [HFIN.out]; rfl⟩, E7.out⟩
                · have h24I : ¬ (d.size : Int) = 24 := by omega
                  have HBAD : Hid (badA (lnkD (decL use) i) = true) := Lib.hid (by rw [HDD2.out, HBADE.out]; simp [h24])
                  have h24B : ((d.size : Int) != 24) = true := by simpa using h24I
                  clear h24
                  by_cases hE0 : Er = 0
                  · subst hE0
                    have HFIN : Hid (Y0 = (xs'.map (·.l), (a, 10))) := Lib.hid (by rw [HY.out, wlk_area HD.out HYD.out HBAD.out, HMAP.out, HL.out])
                    have E7 := Lib.hid (And.intro (HI.out.set 6 rfl (by decide) 1 (.int .i64 10)).drop1.drop1 (HX.out _ _ HXr.out (KeepsOthers.setCell wr ⟨Bw, 1, none⟩ (.int .i64 10))))
                    generalize plcV d 0 = P0 at *
                    generalize plcV d 1 = P1 at *
                    generalize plcV d 2 = P2 at *
                    go_wp2_with fail
                    refine bodyPost_ret (results_none rfl _ _ _) rfl ?_
                    exact ⟨⟨_, rfl⟩, _, xs', ⟨by rw [HFIN.out], use, by rw [HFIN.out]; rfl⟩, E7.out⟩
                  · have hEB : (Er != 0) = true := by simpa using hE0
                    have HFIN : Hid (Y0 = (xs'.map (·.l), (a, 10))) := Lib.hid (by rw [HY.out, wlk_area HD.out HYD.out HBAD.out, HMAP.out, HL.out])
                    have E7 := Lib.hid (And.intro (HI.out.set 6 rfl (by decide) 1 (.int .i64 10)).drop1.drop1 (HX.out _ _ HXr.out (KeepsOthers.setCell wr ⟨Bw, 1, none⟩ (.int .i64 10))))
                    generalize plcV d 0 = P0 at *
                    generalize plcV d 1 = P1 at *
                    generalize plcV d 2 = P2 at *
                    go_wp2_with fail
                    refine bodyPost_ret (results_none rfl _ _ _) rfl ?_
                    exact ⟨⟨_, rfl⟩, _, xs', ⟨by rw [HFIN.out], use, by rw [HFIN.out]; rfl⟩, E7.out⟩
    · have HFIN : Hid (Y0 = (xs.map (·.l), (a, decE use))) := Lib.hid (by rw [HY.out, wlk_bad hd, List.append_nil])
      obtain ⟨E, hE⟩ : ∃ E, decE use = E := ⟨_, rfl⟩
      rw [hE] at hd HFIN ⊢
      have h1 := HW.out.call HBD.out
      have q1 := (h1.at (i := 1) rfl).cell
      have q4 := (h1.at (i := 4) rfl).cell
      have f4 := (h1.at (i := 4) rfl).frozen
      have hx1 := HX.out _ _ HXR.out (KeepsOthers.of_below HBD.out)
      have E2 := Lib.hid (And.intro (h1.set 4 rfl (by decide) 1 (.int .i64 E)) (HX.out _ _ hx1 (KeepsOthers.setCell wd ⟨Bw, 1, none⟩ (.int .i64 E))))
      have hdB : (E != 0) = true := by simpa using hd
      clear hE h1 hx1
      go_wp2_with fail
      refine bodyPost_ret (results_none rfl _ _ _) rfl ?_
      exact ⟨⟨_, rfl⟩, _, xs, ⟨by rw [HFIN.out], use, by rw [HFIN.out]; rfl⟩, E2.out⟩
end Go.Proofs.Ytnomodbcpndocaa
