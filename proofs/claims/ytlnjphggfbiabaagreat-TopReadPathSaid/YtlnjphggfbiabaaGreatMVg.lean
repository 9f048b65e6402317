/-
  TopReadPath: the walk.
-/
import Derived.Test.YtlnjphggfbiabaaGreatMVr
import Derived.Deep.Cut
import Derived.Deep.CutRange
import Derived.BigQuiet
namespace Go.Proofs.YtlnjphggfbiabaaGreat
open Go.RowKit
set_option linter.unusedVariables false

set_option maxRecDepth 100000 in
set_option maxHeartbeats 4000000 in
theorem read_go (A B : Option Addr) (c0 c1 : Nat) (ds : List ByteArray) (l : List (Int × Int)) (w : World) (h : SlAt w w.heap.size A (strV ds)) (h' : SlAt w w.heap.size B (flat encI l))
    (h1 : 0 < ds.length) (h2 : ds.length ≤ 2) (h8 : l.length ≤ 8) (hall : ds.all blkOk = true) (hi : ∀ p ∈ l, (-9223372036854775808 ≤ p.1 ∧ p.1 ≤ 9223372036854775807) ∧ (-9223372036854775808 ≤ p.2 ∧ p.2 ≤ 9223372036854775807)) :
    Calls Tryz.prog 4 #[.slice A ds.length c0, .slice B l.length c1] w fun e w' => e = .returned (.bool true) ∧ Below w.heap.size w w' := by
  have HC := Lib.hid (coded_ok w)
  have HDS : Hid (DsOk ds) := Lib.hid ⟨h2, fun d hd => of_decide_eq_true (List.all_eq_true.1 hall d hd)⟩
  have CT : Hid (∀ w', Below w.heap.size w w' → Calls Tryz.prog 9 #[.slice A ds.length c0, .func (.func 10) #[] #[]] w' fun e w'' => e = .returned (.bool false) ∧ w' = w'') := Lib.hid (fun w' hb => by
    have h9 := tcontains_any A c0 ds w' ((h.below hb).mono hb.size) (by omega)
    rw [hall] at h9
    exact h9)
  obtain ⟨F, X, O, ls, N, ce, cx, cd, hos, hds, hinc, hll, hlt, hblk⟩ := read_facts HDS.out h1 h8 hi
  have HA := Lib.hid h
  have HL := Lib.hid h'
  have HI := Lib.hid hi
  obtain ⟨m, hm⟩ : ∃ m, ds.length = m := ⟨_, rfl⟩
  obtain ⟨k8, hk⟩ : ∃ k, l.length = k := ⟨_, rfl⟩
  have HM := Lib.hid hm
  have HK8 := Lib.hid hk
  rw [hm] at CT h1 h2 ce hos hds hblk ⊢
  rw [hk] at h8 cx ⊢
  have CE := Lib.hid ce
  have CX := Lib.hid cx
  have CD := Lib.hid cd
  have HOS := Lib.hid hos
  have HDZ := Lib.hid hds
  have HIN := Lib.hid hinc
  have HLT := Lib.hid hlt
  have HBLK := Lib.hid hblk
  have HLL := Lib.hid hll
  clear ce cx cd hos hds hinc hlt hblk hll
  clear h h' hall hi hm hk
  have h0I : ((m : Int) == 0) = false := by rw [beq_eq_false_iff_ne]; omega
  have h2I : ¬ (2 : Int) < (m : Int) := by omega
  have h8I : ¬ (8 : Int) < (k8 : Int) := by omega
  obtain ⟨ba, oa, hAe, hbk⟩ := HA.out.strAddr (by rw [HM.out]; exact h1)
  subst hAe
  go_enter Tryz.func4, Tryz.ntmps4
  go_wp2_with fail
  refine HC.out.mono ?_
  rintro e w1 ⟨rfl, hb1⟩
  have HB1 := Lib.hid hb1
  clear hb1 HC
  go_wp2_with fail
  refine (CT.out w1 HB1.out).mono ?_
  rintro e w1' ⟨rfl, rfl⟩
  clear CT h0I h2I h8I
  go_wp2_with fail
  go_loopw [5, 47] (fun v i wx => ∃ k : Nat, k ≤ m ∧ i = .int .i64 (k : Int) ∧ v = .string (natS (trkN ds k)) ∧ Below w.heap.size w wx) (fun _ i _ => m - (intOf i).toNat)
  case atStart => exact ⟨0, by omega, rfl, rfl, HB1.out⟩
  case round =>
    obtain ⟨k, hk, rfl, rfl, hbel⟩ := hrel
    have HB := Lib.hid hbel
    by_cases hkm : k < m
    · obtain ⟨s, hs⟩ : ∃ s, ds[k]? = some s := ⟨ds[k]'(by rw [HM.out]; exact hkm), List.getElem?_eq_getElem _⟩
      have p0 := (HA.out.below hbel).str rfl hs
      have hkI : (k : Int) < (m : Int) := by omega
      have h0k : (0 : Int) ≤ (k : Int) := by omega
      have hgs : getS ds k = s := by unfold getS; rw [hs]; rfl
      have hss : s.size = 2048 := by rw [← hgs]; exact (HDS.out.get (by rw [HM.out]; exact hkm)).2
      have CR := Lib.hid (recorded_any k s wr (by omega) hss)
      have HT : Hid (natS (trkN ds k) ++ natS (rawN k s) = natS (trkN ds (k + 1))) := Lib.hid (by rw [trkN_succ, hgs, natS_append])
      have hcat : (natS (trkN ds k)).size + (natS (rawN k s)).size ≤ 140737488351232 := by
        rw [natS_size, natS_size, (trkN_ok HDS.out k (by rw [HM.out]; omega)).1, (raw_ok (by omega) hss).1]
        omega
      generalize natS (trkN ds k) = T at *
      generalize natS (rawN k s) = R at *
      clear hbel hs hgs hss
      go_wp2_with fail
      refine CR.out.mono ?_
      rintro e w2 ⟨rfl, hb2⟩
      have HB2 := Lib.hid (HB.out.trans (hb2.mono HB.out.size))
      clear hb2 CR
      go_wp2_with fail
      exact ⟨⟨k + 1, by omega, by go_num, by rw [HT.out], HB2.out⟩, by simp [intOf]; omega⟩
    · obtain rfl : k = m := by omega
      have hkI : ¬ (k : Int) < (k : Int) := by omega
      clear hbel
      obtain ⟨DS, hDS⟩ : ∃ DS, natS (trkN ds k) = DS := ⟨_, rfl⟩
      rw [hDS] at CE HDZ ⊢
      clear hDS
      obtain ⟨OS, hOS⟩ : ∃ OS, natS O = OS := ⟨_, rfl⟩
      have HOE := Lib.hid hOS
      rw [hOS] at CD HOS
      clear hOS
      go_wp2_with fail
      refine (CE.out wr).mono ?_
      rintro e w2 ⟨hb2, A2, c2, rfl, hs2⟩
      have HB2 := Lib.hid (HB.out.trans (hb2.mono HB.out.size))
      have HS2 := Lib.hid hs2
      clear hb2 CE HB hs2
      go_wp2_with fail
      refine (CX.out A2 B c2 c1 w2 HS2.out ((HL.out.below HB2.out).mono HB2.out.size)).mono ?_
      rintro e w3 ⟨hb3, rfl | ⟨A3, c3, rfl, hs3⟩⟩
      · have HB3 := Lib.hid (HB2.out.trans (hb3.mono HB2.out.size))
        clear hb3 CX CD HB2 HS2
        go_wp2_with fail
        go_ret
        exact ⟨rfl, HB3.out⟩
      have HB3 := Lib.hid (HB2.out.trans (hb3.mono HB2.out.size))
      have HS3 := Lib.hid hs3
      clear hb3 CX HB2 HS2 hs3
      go_wp2_with fail
      refine (CD.out A3 c3 w3 HS3.out).mono ?_
      rintro e w4 ⟨hb4, A4, c4, rfl, hs4⟩
      have HB4 := Lib.hid (HB3.out.trans (hb4.mono HB3.out.size))
      have HS4 := Lib.hid hs4
      clear hb4 CD HB3 HS3 hs4
      obtain ⟨q, hq⟩ : ∃ q, ls.length = q := ⟨_, rfl⟩
      have HQ := Lib.hid hq
      have hq5 : q ≤ 5000 := by rw [← hq]; exact HLL.out
      rw [hq]
      clear hq
      have hosz : (OS.size : Int) = (DS.size : Int) := by rw [HOS.out, HDZ.out]
      go_wp2_with fail
      clear hosz hkI
      go_loopw [96] (fun i wx => ∃ j : Nat, j ≤ k ∧ i = .int .i64 (j : Int) ∧ Below w4.heap.size w4 wx) (fun i _ => k - (intOf i).toNat)
      case atStart => exact ⟨0, by omega, rfl, Below.refl _ _⟩
      case round =>
        obtain ⟨j, hj, rfl, hbel⟩ := hrel
        have HX := Lib.hid hbel
        clear hbel
        by_cases hjk : j < k
        · have hjI : (j : Int) < (k : Int) := by omega
          have h0j : (0 : Int) ≤ (j : Int) := by omega
          obtain ⟨Y, Z, hY, cS, cD, cP⟩ := HBLK.out j hjk
          rw [HOE.out] at cS
          have CS := Lib.hid cS
          have CQ := Lib.hid cD
          have CP := Lib.hid cP
          have hYI : (Y.size : Int) = 2352 := by omega
          have hosI : 2352 * ((j : Int) + 1) ≤ (OS.size : Int) := by rw [HOS.out]; omega
          clear cS cD cP hY
          go_wp2_with fail
          refine (CS.out wr).mono ?_
          rintro e w5 ⟨rfl, hb5⟩
          have HX5 := Lib.hid (HX.out.trans (hb5.mono HX.out.size))
          have HLS : Hid (SlAt w5 w5.heap.size A4 (posV ls)) := Lib.hid ((HS4.out.below HX5.out).mono HX5.out.size)
          clear hb5 CS hosI
          go_wp2_with fail
          go_loopw [17, 119] (fun v i wx => ∃ (t : Nat) (A6 : Option Addr) (c6 : Nat), t ≤ q ∧ i = .int .i64 (t : Int) ∧ v = .slice A6 (erI (ls.take t) j).length c6 ∧ (erI (ls.take t) j).length ≤ t ∧ wx.ownsRow w5.heap.size 3 1 (.slice A6 (erI (ls.take t) j).length c6) (erI (ls.take t) j).length (posV (erI (ls.take t) j)) ∧ Below w5.heap.size w5 wx) (fun _ i _ => q - (intOf i).toNat)
          case atStart => exact ⟨0, none, 0, by omega, rfl, rfl, Nat.le_refl _, World.ownsRow_nil _ _ _ _, Below.refl _ _⟩
          case round =>
            obtain ⟨t, A6, c6, ht, rfl, rfl, hel, hown, hbe⟩ := hrel
            have HO := Lib.hid hown
            have HBE := Lib.hid hbe
            by_cases htq : t < q
            · obtain ⟨x, hx⟩ : ∃ x, ls[t]? = some x := ⟨ls[t]'(by rw [HQ.out]; exact htq), List.getElem?_eq_getElem _⟩
              have hx5 := HLT.out x (List.mem_of_getElem? hx)
              obtain ⟨b, off, hA4, hb4⟩ := HLS.out.posAddr (by rw [HQ.out]; omega)
              subst hA4
              have p1 := (HLS.out.below hbe).pos rfl hx
              have HER := Lib.hid (erI_snoc ls t j x hx)
              have htI : (t : Int) < (q : Int) := by omega
              have h0t : (0 : Int) ≤ (t : Int) := by omega
              have d1 : Int.tdiv (x : Int) 2352 = ((x / 2352 : Nat) : Int) := by rw [Int.tdiv_eq_ediv_of_nonneg (by omega)]; omega
              have d2 : Int.tmod (x : Int) 2352 = ((x % 2352 : Nat) : Int) := by rw [Int.tmod_eq_emod_of_nonneg (by omega)]; omega
              generalize erI (ls.take t) j = er at *
              obtain ⟨dq, hdq⟩ : ∃ dq, x / 2352 = dq := ⟨_, rfl⟩
              obtain ⟨dr, hdr⟩ : ∃ dr, x % 2352 = dr := ⟨_, rfl⟩
              rw [hdq] at d1 HER
              rw [hdr] at d2 HER
              obtain ⟨u, hu⟩ : ∃ u, er.length = u := ⟨_, rfl⟩
              have HU := Lib.hid hu
              rw [hu] at hel HO ⊢
              have hdq5 : dq ≤ 5000 := by omega
              have hdr5 : dr ≤ 5000 := by omega
              clear hown hbe hx hdq hdr hu
              by_cases hdj : dq = j
              · have e9 : (dq : Int) = (j : Int) := by omega
                by_cases h12 : 12 ≤ dr
                · have h12I : (12 : Int) ≤ (dr : Int) := by omega
                  have hER : Hid (erI (ls.take (t + 1)) j = er ++ [dr]) := Lib.hid (by rw [HER.out, if_pos ⟨hdj, h12⟩])
                  clear hdj h12
                  go_wp2_with (at_builtin; refine wpList_app1 HO.out info_intp Tryz.underlying29 rfl (by unfold maxLen; omega) (by omega) HBE.out.size rfl rfl rfl (by rfl) (by rfl) ?_; intro v5 w6 hown6 hb6 hg6; have HB6 := Lib.hid (HBE.out.trans hb6); obtain ⟨A7, c7, hv7⟩ := own_slice hown6; subst hv7; have HO6 := Lib.hid hown6; clear hown6 hb6 hg6)
                  exact ⟨⟨t + 1, A7, c7, by omega, by go_num, by rw [hER.out, List.length_append, HU.out]; rfl, by rw [hER.out, List.length_append, HU.out]; show u + 1 ≤ t + 1; omega, by
                    rw [hER.out, List.length_append, HU.out, ← posV_snoc]
                    exact HO6.out, HB6.out⟩, by simp [intOf]; omega⟩
                · have h12I : ¬ (12 : Int) ≤ (dr : Int) := by omega
                  have hER : Hid (erI (ls.take (t + 1)) j = er) := Lib.hid (by rw [HER.out, if_neg (by omega), List.append_nil])
                  clear hdj h12
                  go_wp2_with fail
                  exact ⟨⟨t + 1, A6, c6, by omega, by go_num, by rw [hER.out, HU.out], by rw [hER.out, HU.out]; omega, by rw [hER.out, HU.out]; exact HO.out, HBE.out⟩, by simp [intOf]; omega⟩
              · have e9 : ¬ (dq : Int) = (j : Int) := by omega
                have hER : Hid (erI (ls.take (t + 1)) j = er) := Lib.hid (by rw [HER.out, if_neg (by omega), List.append_nil])
                clear hdj
                go_wp2_with fail
                exact ⟨⟨t + 1, A6, c6, by omega, by go_num, by rw [hER.out, HU.out], by rw [hER.out, HU.out]; omega, by rw [hER.out, HU.out]; exact HO.out, HBE.out⟩, by simp [intOf]; omega⟩
            · obtain rfl : t = q := by omega
              have htI : ¬ (t : Int) < (t : Int) := by omega
              have e1 : ls.take t = ls := List.take_of_length_le (by rw [HQ.out]; exact Nat.le_refl _)
              rw [e1] at hown hel ⊢
              have HSE := Lib.hid (SlAt.of_own' hown (Nat.le_refl _))
              have CPE := Lib.hid (peel_any (erI ls j) A6 c6 wr HSE.out (erI_inc HIN.out j) (erI_ok HIN.out j).1 (erI_ok HIN.out j).2)
              have HBX := Lib.hid (HX5.out.trans (hbe.mono HX5.out.size))
              obtain ⟨er, her⟩ : ∃ er, erI ls j = er := ⟨_, rfl⟩
              rw [her] at CPE HSE CQ ⊢
              have CRP : Hid (∀ w', Calls Tryz.prog 17 #[.int .u8 255, .int .i64 10] w' fun e w'' => e = .returned (.string ⟨(List.replicate 10 (255 : UInt8)).toArray⟩) ∧ Below w'.heap.size w' w'') := Lib.hid (fun w' => repr_any 255 10 w' (by omega))
              clear HO hel e1 hown hbe HBE her
              go_wp2_with fail
              refine CPE.out.mono ?_
              rintro e w6 ⟨hb6, A7, c7, rfl⟩
              have HX6 := Lib.hid (HBX.out.trans (hb6.mono HBX.out.size))
              have HSE6 := Lib.hid ((HSE.out.below hb6).mono hb6.size)
              obtain ⟨r, hr⟩ : ∃ r, (fltN (peelF er) er).length = r := ⟨_, rfl⟩
              have HR := Lib.hid hr
              rw [hr]
              clear hb6 CPE HBX HSE hr
              by_cases hr0 : 0 < r
              · have hrI : (0 : Int) < (r : Int) := by omega
                clear CRP CQ CP HSE6
                go_wp2_with fail
                go_roundw
                case rel => exact ⟨j + 1, by omega, by go_num, HX6.out⟩
                case measure => simp [intOf]; omega
              · obtain rfl : r = 0 := by omega
                have CQ2 := Lib.hid (CQ.out (rest_nil HR.out))
                clear CQ HR hr0
                have hfs : (⟨(List.replicate 10 (255 : UInt8)).toArray⟩ : ByteArray).size = 10 := by kernel_rfl
                have HFE : Hid (sN ⟨(List.replicate 10 (255 : UInt8)).toArray⟩ = [255, 255, 255, 255, 255, 255, 255, 255, 255, 255]) := Lib.hid (by kernel_rfl)
                generalize (⟨(List.replicate 10 (255 : UInt8)).toArray⟩ : ByteArray) = FS at *
                have HFS := Lib.hid hfs
                have hf1 : (⟨#[0]⟩ : ByteArray).size + FS.size ≤ 140737488351232 := by rw [hfs]; decide
                have hf2 : ((⟨#[0]⟩ : ByteArray) ++ FS).size + (⟨#[0]⟩ : ByteArray).size ≤ 140737488351232 := by rw [ByteArray.size_append, hfs]; decide
                clear hfs
                go_wp2_with fail
                refine (CRP.out w6).mono ?_
                rintro e w7 ⟨rfl, hb7⟩
                have HX7 := Lib.hid (HX6.out.trans (hb7.mono HX6.out.size))
                have HSE7 := Lib.hid ((HSE6.out.below hb7).mono hb7.size)
                clear hb7 CRP HX6 HSE6
                go_wp2_with fail
                have HSN : Hid (sN ((⟨#[0]⟩ : ByteArray) ++ FS ++ ⟨#[0]⟩ ++ Y.extract 12 Y.size) = syncN ++ (sN Y).drop 12) := Lib.hid (by
                  rw [sN_app, sN_app, sN_app, HFE.out, sN_extract, List.take_of_length_le (by rw [List.length_drop, sN_length]; exact Nat.le_refl _)]
                  rfl)
                refine (CQ2.out A6 c6 w7 HSE7.out _ HSN.out).mono ?_
                rintro e w8 ⟨hb8, cnt, rfl⟩
                have HX8 := Lib.hid (HX7.out.trans (hb8.mono HX7.out.size))
                clear hb8 CQ2 HX7 HSE7 HSN HFE HFS hf1 hf2
                go_wp2_with fail
                refine (CP.out w8).mono ?_
                rintro e w9 ⟨rfl, hb9⟩
                have HX9 := Lib.hid (HX8.out.trans (hb9.mono HX8.out.size))
                clear hb9 CP HX8
                go_upto_region 43 with fail
                obtain ⟨sj, hsj⟩ : ∃ s, ds[j]? = some s := ⟨ds[j]'(by rw [HM.out]; exact hjk), List.getElem?_eq_getElem _⟩
                have hgj : getS ds j = sj := by unfold getS; rw [hsj]; rfl
                rw [hgj]
                have p8 := (HA.out.below (HB4.out.trans (HX9.out.mono HB4.out.size))).str rfl hsj
                have hb9 : ba < w9.heap.size := Nat.lt_of_lt_of_le hbk (HB4.out.trans (HX9.out.mono HB4.out.size)).size
                clear hsj hgj
                go_quiet (fail)
                go_wp2_with fail
                go_roundw
                case rel => exact ⟨j + 1, by omega, by go_num, below_drewN (HX9.out.alloc HX9.out.size _) _⟩
                case measure => simp [intOf]; omega
        · obtain rfl : j = k := by omega
          have hjI : ¬ (j : Int) < (j : Int) := by omega
          go_wp2_with fail
          go_ret
          exact ⟨rfl, HB4.out.trans (HX.out.mono HB4.out.size)⟩
end Go.Proofs.YtlnjphggfbiabaaGreat
