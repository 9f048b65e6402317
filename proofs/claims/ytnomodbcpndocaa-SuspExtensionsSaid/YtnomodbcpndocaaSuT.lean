/-
  Chapter 24: Join of the reference.
-/
import Derived.Test.YtnomodbcpndocaaSuS
import Derived.Test.YtnomodbcpndocaaApp
import Derived.Deep.Cut
namespace Go.Proofs.Ytnomodbcpndocaa
open Go.RowKit
set_option linter.unusedVariables false

set_option maxRecDepth 100000 in
set_option maxHeartbeats 8000000 in
theorem rjoin_any (A Ap : Option Addr) (c cp : Nat) (hs : List Value) (ll : List (List Ent)) (ps : List Pl) (w : World) (h : SlAt w w.heap.size A hs) (hG : GrAt w w.heap.size hs ll) (hP : PlAt w w.heap.size Ap ps) (hl : ll.length ≤ 1000) (hpl : ps.length ≤ 1000000)
    (hz : ∀ l ∈ ll, sizeL l ≤ 1000000) (hsg : ∀ l ∈ ll, ∀ x ∈ l, x.sg.size ≤ 140737488351232) (hpg : ∀ p ∈ ps, PlG p) :
    Calls Try.prog 38 #[.slice A ll.length c, .slice Ap ps.length cp] w (JoinRes ll ps w) := by
  have HS := Lib.hid h
  have HG := Lib.hid hG
  have HP := Lib.hid hP
  have HN1 := Lib.hid hG.1
  have HSG := Lib.hid hsg
  have HPG := Lib.hid hpg
  have HZ := Lib.hid hz
  have CL := Lib.hid (rlengths_any A c hs ll w h hG (by omega) (fun l hl => by have := hz l hl; omega))
  obtain ⟨n, hn⟩ : ∃ n, ll.length = n := ⟨_, rfl⟩
  obtain ⟨m, hm⟩ : ∃ m, ps.length = m := ⟨_, rfl⟩
  have HN := Lib.hid hn
  have HM := Lib.hid hm
  unfold LenRes at CL
  rw [hn] at hl HN1 CL ⊢
  rw [hm] at hpl ⊢
  clear h hG hP hn hm hsg hpg hz
  by_cases h0 : n = 0
  · subst h0
    have HE := Lib.hid (show joinE ll ps = 1 by unfold joinE; rw [if_pos (.inl HN.out)])
    go_enter Try.func38, Try.ntmps38
    go_wp2_with fail
    go_ret2
    exact JoinRes.no HE.out (by decide) (Below.refl _ _)
  · have h0I : ¬ (n : Int) = 0 := by omega
    by_cases hmn : m + 1 = n
    · have hmnI : (m : Int) = (n : Int) - 1 := by omega
      have hmnB : ((m : Int) != (n : Int) - 1) = false := by simp; omega
      have h0B : ((n : Int) == 0) = false := by simp; omega
      clear hmnI
      go_enter Try.func38, Try.ntmps38
      go_wp2_with fail
      refine CL.out.mono ?_
      rintro e w1 ⟨hb1, A6, c6, rfl, hc6, hown6⟩
      have HO6 := Lib.hid hown6
      have HB1 := Lib.hid hb1
      clear hown6 hb1 CL hc6 h0B hmnB
      have HR2 : Hid ((w1.alloc (.cells #[] 9)).ownsRow w.heap.size 9 1 (.slice (some ⟨w1.heap.size, 0, none⟩) 0 0) 0 (strV (jnK ll ps 0))) := Lib.hid (World.ownsRow_lit (base := w.heap.size) (size := 1) (e := 9) w1 #[] 0 HB1.out.size (by unfold maxLen; omega) rfl)
      have HL2 := Lib.hid (own_all HO6.out ((Below.refl w1.heap.size w1).alloc (Nat.le_refl _) (.cells #[] 9)))
      have HB2 := Lib.hid (HB1.out.alloc HB1.out.size (.cells #[] 9))
      clear HO6 HB1
      go_wp2_with fail
      go_loopw [7, 8] (fun o i wr => ∃ k : Nat, k ≤ n ∧ i = .int .i64 k ∧ Hid (jErr ll ps k = 0) ∧ wr.ownsRow w.heap.size 9 1 o k (strV (jnK ll ps k)) ∧ wr.ownsRow w.heap.size 3 1 (.slice A6 n c6) n (intV (lenL ll)) ∧ Below w.heap.size w wr) (fun _ i _ => n - (intOf i).toNat)
      case atStart => exact ⟨0, by omega, rfl, Lib.hid rfl, HR2.out, HL2.out, HB2.out⟩
      case round =>
        clear HR2 HL2 HB2
        obtain ⟨k, hk, rfl, HJ, hrow, hlen, hbel⟩ := hrel
        obtain ⟨Ao, co, hov⟩ := own_slice hrow
        subst hov
        have HR := Lib.hid hrow
        have HL := Lib.hid hlen
        have HB := Lib.hid hbel
        have hbs := hbel.size
        clear hrow hlen hbel
        by_cases hlt : k < n
        · obtain ⟨l, hx⟩ : ∃ s, ll[k]? = some s := ⟨ll[k]'(by rw [HN.out]; exact hlt), List.getElem?_eq_getElem _⟩
          obtain ⟨b, off, hA, hbk⟩ := HS.out.addr (by rw [HN1.out]; omega)
          subst hA
          obtain ⟨P, cl, e1, _, hPl⟩ := HG.out.2 k l hx
          have g1 := (HS.out.below HB.out).val rfl e1
          have hltI : (k : Int) < (n : Int) := by omega
          have h0k : (0 : Int) ≤ (k : Int) := by omega
          have CE := Lib.hid (rencode_any P cl l wr ((hPl.below HB.out).mono hbs))
          have HJG : Hid (jG ll k = l) := Lib.hid (by unfold jG; rw [hx]; rfl)
          have hjL : (lenL ll)[k]? = some (jL ll k) := by unfold jL; rw [lenL_get ll k l hx]; rfl
          have HJL := Lib.hid hjL
          have HJB : Hid (jL ll k < 9223372036854775808) := Lib.hid (by
            unfold jL
            rw [lenL_get ll k l hx, Option.getD_some]
            have := HZ.out l (List.mem_of_getElem? hx)
            split <;> omega)
          have hxz := encS_size l
          obtain ⟨E, hE⟩ : ∃ E, checkL l = E := ⟨_, rfl⟩
          have HE := Lib.hid hE
          obtain ⟨S, hSS⟩ : ∃ S, encS l = S := ⟨_, rfl⟩
          have HSS := Lib.hid hSS
          obtain ⟨ln, hln⟩ : ∃ ln, l.length = ln := ⟨_, rfl⟩
          rw [hE, hSS, hln] at CE
          rw [hln] at g1
          rw [hSS] at hxz
          clear hx e1 hPl hE hSS hln hjL
          by_cases hE0 : E = 0
          · subst hE0
            go_wp2_with fail
            refine CE.out.mono ?_
            rintro e w3 ⟨rfl, hb3⟩
            clear CE g1
            have HR3 := Lib.hid (own_all HR.out hb3)
            have HL3 := Lib.hid (own_all HL.out hb3)
            have HB3 := Lib.hid (HB.out.trans (hb3.mono hbs))
            clear hb3 HR HL HB hbs
            by_cases hk0 : k = 0
            · subst hk0
              have HJ1 : Hid (jErr ll ps (0 + 1) = 0) := Lib.hid (jErr_go HJ.out (by unfold jE; rw [HJG.out, if_pos HE.out]; rfl))
              have HBS := Lib.hid HB3.out.size
              go_wp2_with (at_builtin; refine wpList_app1 HR3.out info_str Try.underlying48 rfl (by unfold maxLen; omega) (by omega) HBS.out rfl rfl rfl (by rfl) (by rfl) ?_; intro v5 w6 hown6 hb6 hg6)
              have HL6 := own_grown HL3.out hg6 (own_ne HL3.out HR3.out (by decide))
              rw [show strV (jnK ll ps 0) ++ [Value.string S] = strV (jnK ll ps (0 + 1)) by rw [show jnK ll ps (0 + 1) = [S] by rw [← HSS.out, ← HJG.out]; rfl]; rfl] at hown6
              exact ⟨⟨0 + 1, by omega, by simp, HJ1, hown6, HL6, HB3.out.trans hb6⟩, by simp [intOf]; omega⟩
            · have hk0B : (0 : Int) < (k : Int) := by omega
              obtain ⟨p, hp⟩ : ∃ p, ps[k - 1]? = some p := ⟨ps[k - 1]'(by rw [HM.out]; omega), List.getElem?_eq_getElem _⟩
              obtain ⟨bp, offp, hAp, hbp⟩ := HP.out.one (by rw [HM.out]; omega)
              subst hAp
              have hJP : jP ps (k - 1) = p := by unfold jP; rw [hp]; rfl
              have hpg := HPG.out p (List.mem_of_getElem? hp)
              have HPC := Lib.hid (fun w' (hb : Below w.heap.size w w') => (HP.out.below hb).cells rfl hp)
              have CC := Lib.hid (fun w => rcontinuation_any p.lba p.off (jL ll k) w hpg.lba hpg.off HJB.out)
              obtain ⟨go6, cap6, hv6, _, hg6lt, _⟩ := own_form HL3.out (by omega)
              injection hv6 with hA6 _ hc6
              subst hA6 hc6
              have q6 : w3.cell? ⟨go6, k, none⟩ = some (.int .i64 (jL ll k)) := by
                rw [HL3.out.cellAt k (by omega)]
                unfold intV
                rw [List.getElem?_map, HJL.out]
                rfl
              have HX : Hid (jX ll ps k = contX p.lba p.off (jL ll k)) := Lib.hid (by unfold jX; rw [hJP])
              have HJE : Hid (jE ll ps k = contE p.lba p.off (jL ll k)) := Lib.hid (by unfold jE; rw [HJG.out, if_pos HE.out, if_neg hk0, hJP])
              obtain ⟨pa, po⟩ := p
              dsimp only at HPC CC HX HJE
              generalize jL ll k = JL at *
              have hxsg := contX_sg pa po JL
              obtain ⟨⟨xs, xv, xd⟩, hXX⟩ : ∃ X, contX pa po JL = X := ⟨_, rfl⟩
              rw [hXX] at CC HX hxsg
              dsimp only at hxsg
              generalize contE pa po JL = CEr at *
              have HQ6 := Lib.hid q6
              have hkm : (k : Int) - 1 < (m : Int) := by omega
              have hkm0 : (0 : Int) ≤ (k : Int) - 1 := by omega
              have hkmN : ((k : Int) - 1).toNat = k - 1 := by omega
              have hkp : 0 < k := by omega
              have hk1 : (1 : Int) ≤ (k : Int) := by omega
              unfold entV at CC
              dsimp only at CC
              clear hp hJP hpg q6 hXX hk0
              go_upto_region 12 with fail
              obtain ⟨w4, hw4⟩ : ∃ w4 : World, w4 = w3 := ⟨_, rfl⟩
              subst hw4
              have HR4 := HR3
              have HL4 := HL3
              have HB4 := HB3
              clear HR3 HL3 HB3
              have hlt6 : go6 < w4.heap.size := hg6lt
              have HQ : Hid (∀ w', Below w4.heap.size w4 w' → (w'.cell? ⟨bp, offp + (k - 1) * 2, none⟩ = some (.int .i64 pa) ∧ w'.cell? ⟨bp, offp + (k - 1) * 2 + 1, none⟩ = some (.int .i64 po)) ∧ w'.cell? ⟨go6, k, none⟩ = some (.int .i64 JL)) := Lib.hid (fun w' hb =>
                ⟨HPC.out w' (HB4.out.trans (hb.mono HB4.out.size)), (hb.cell (p := ⟨go6, k, none⟩) hlt6).trans HQ6.out⟩)
              clear hg6lt
              refine wp_region_held_drew (S := (fun w' => Below w4.heap.size w4 w')) (by kernel_rfl) ((Below.refl _ _).drew) (fun hHeld => ?_)
              generalize w4.drew = wd at *
              have hw1 : IntKind.i64.wrap ((k : Int) - 1) = (k : Int) - 1 := IntWalk.i64_in _ (by omega)
              refine wpAnyH_take (i := 0) (oi := ?o18) (v := ?v18) ?hi18 (by kernel_rfl) (by kernel_rfl) (by kernel_rfl) ?hq18 ?hy18 (by assumption) ?hr18
              case hi18 => (simp only [List.getElem?_toArray, List.getElem?_cons_zero]; rfl)
              case hy18 => ((refine .inl ⟨by rfl, ?_⟩); intro w hS; go_simp; (try with_reducible rfl))
              case hq18 => exact fun _ _ _ h => h
              (simp only [Act.put, List.setIfInBounds_toArray, List.set_cons_zero, List.set_cons_succ])
              refine wpAnyH_take (i := 1) (oi := ?o19) (v := ?v19) ?hi19 (by kernel_rfl) (by kernel_rfl) (by kernel_rfl) ?hq19 ?hy19 (by assumption) ?hr19
              case hi19 => (simp only [List.getElem?_toArray, List.getElem?_cons_succ, List.getElem?_cons_zero]; rfl)
              case hy19 => ((refine .inl ⟨by rfl, ?_⟩); intro w hS; go_simp; (try with_reducible rfl))
              case hq19 => exact fun _ _ _ h => h
              (simp only [Act.put, List.setIfInBounds_toArray, List.set_cons_zero, List.set_cons_succ])
              refine wpAnyH_take (i := 2) (oi := ?o20) (v := ?v20) ?hi20 (by kernel_rfl) (by kernel_rfl) (by kernel_rfl) ?hq20 ?hy20 (by assumption) ?hr20
              case hi20 => (simp only [List.getElem?_toArray, List.getElem?_cons_succ, List.getElem?_cons_zero]; rfl)
              case hy20 => ((refine .inl ⟨by rfl, ?_⟩); intro w hS; go_simp; (try with_reducible rfl))
              case hq20 => exact fun _ _ _ h => h
              (simp only [Act.put, List.setIfInBounds_toArray, List.set_cons_zero, List.set_cons_succ])
              refine wpAnyH_take (i := 3) (oi := ?o21) (v := ?v21) ?hi21 (by kernel_rfl) (by kernel_rfl) (by kernel_rfl) ?hq21 ?hy21 (by assumption) ?hr21
              case hi21 => (simp only [List.getElem?_toArray, List.getElem?_cons_succ, List.getElem?_cons_zero]; rfl)
              case hy21 => ((refine .inl ⟨by rfl, ?_⟩); intro w hS; go_simp; (try with_reducible rfl))
              case hq21 => exact fun _ _ _ h => h
              (simp only [Act.put, List.setIfInBounds_toArray, List.set_cons_zero, List.set_cons_succ])
              refine wpAnyH_take (i := 4) (oi := ?o22) (v := ?v22) ?hi22 (by kernel_rfl) (by kernel_rfl) (by kernel_rfl) ?hq22 ?hy22 (by assumption) ?hr22
              case hi22 => (simp only [List.getElem?_toArray, List.getElem?_cons_succ, List.getElem?_cons_zero]; rfl)
              case hy22 => ((refine .inl ⟨by rfl, ?_⟩); intro w hS; have q := (HQ.out _ hS).1; go_simp; (try with_reducible rfl))
              case hq22 => exact fun _ _ _ h => h
              (simp only [Act.put, List.setIfInBounds_toArray, List.set_cons_zero, List.set_cons_succ])
              refine wpAnyH_take (i := 5) (oi := ?o23) (v := ?v23) ?hi23 (by kernel_rfl) (by kernel_rfl) (by kernel_rfl) ?hq23 ?hy23 (by assumption) ?hr23
              case hi23 => (simp only [List.getElem?_toArray, List.getElem?_cons_succ, List.getElem?_cons_zero]; rfl)
              case hy23 => ((refine .inl ⟨by rfl, ?_⟩); intro w hS; go_simp; (try with_reducible rfl))
              case hq23 => exact fun _ _ _ h => h
              (simp only [Act.put, List.setIfInBounds_toArray, List.set_cons_zero, List.set_cons_succ])
              refine wpAnyH_take (i := 6) (oi := ?o24) (v := ?v24) ?hi24 (by kernel_rfl) (by kernel_rfl) (by kernel_rfl) ?hq24 ?hy24 (by assumption) ?hr24
              case hi24 => (simp only [List.getElem?_toArray, List.getElem?_cons_succ, List.getElem?_cons_zero]; rfl)
              case hy24 => ((refine .inl ⟨by rfl, ?_⟩); intro w hS; go_simp; (try with_reducible rfl))
              case hq24 => exact fun _ _ _ h => h
              (simp only [Act.put, List.setIfInBounds_toArray, List.set_cons_zero, List.set_cons_succ])
              refine wpAnyH_take (i := 7) (oi := ?o25) (v := ?v25) ?hi25 (by kernel_rfl) (by kernel_rfl) (by kernel_rfl) ?hq25 ?hy25 (by assumption) ?hr25
              case hi25 => (simp only [List.getElem?_toArray, List.getElem?_cons_succ, List.getElem?_cons_zero]; rfl)
              case hy25 => ((refine .inl ⟨by rfl, ?_⟩); intro w hS; go_simp; (try with_reducible rfl))
              case hq25 => exact fun _ _ _ h => h
              (simp only [Act.put, List.setIfInBounds_toArray, List.set_cons_zero, List.set_cons_succ])
              refine wpAnyH_take (i := 8) (oi := ?o26) (v := ?v26) ?hi26 (by kernel_rfl) (by kernel_rfl) (by kernel_rfl) ?hq26 ?hy26 (by assumption) ?hr26
              case hi26 => (simp only [List.getElem?_toArray, List.getElem?_cons_succ, List.getElem?_cons_zero]; rfl)
              case hy26 => ((refine .inl ⟨by rfl, ?_⟩); intro w hS; have q := (HQ.out _ hS).2; go_simp; (try with_reducible rfl))
              case hq26 => exact fun _ _ _ h => h
              (simp only [Act.put, List.setIfInBounds_toArray, List.set_cons_zero, List.set_cons_succ])
              refine wpAnyH_ready (rs := [9, 13]) (by kernel_rfl) (by simp) ?_
              refine AllReadyH.cons rfl (fun K hK => ?_) (AllReadyH.cons rfl (fun K hK => ?_) AllReadyH.nil)
              · skip
                go_simp
                go_wp2_with (((with_reducible refine (CC.out _).mono ?_); rintro e w9 ⟨rfl, hb9⟩))
                refine hK.out _ _ (hHeld.trans (hb9.mono hHeld.size)) (fun hHeld1 => ?_)
                clear hK K
                (try simp only [Act.put, List.setIfInBounds_toArray, List.set_cons_zero, List.set_cons_succ])
                have HB9 := Lib.hid hHeld1
                clear hb9
                clear hHeld; have hHeld := hHeld1; clear hHeld1
                refine wpAnyH_take (i := 10) (oi := ?o27) (v := ?v27) ?hi27 (by kernel_rfl) (by kernel_rfl) (by kernel_rfl) ?hq27 ?hy27 (by assumption) ?hr27
                case hi27 => (simp only [List.getElem?_toArray, List.getElem?_cons_succ, List.getElem?_cons_zero]; rfl)
                case hy27 => ((refine .inl ⟨by rfl, ?_⟩); intro w hS; go_simp; (try with_reducible rfl))
                case hq27 => exact fun _ _ _ h => h
                (simp only [Act.put, List.setIfInBounds_toArray, List.set_cons_zero, List.set_cons_succ])
                refine wpAnyH_take (i := 11) (oi := ?o28) (v := ?v28) ?hi28 (by kernel_rfl) (by kernel_rfl) (by kernel_rfl) ?hq28 ?hy28 (by assumption) ?hr28
                case hi28 => (simp only [List.getElem?_toArray, List.getElem?_cons_succ, List.getElem?_cons_zero]; rfl)
                case hy28 => ((refine .inl ⟨by rfl, ?_⟩); intro w hS; go_simp; (try with_reducible rfl))
                case hq28 => exact fun _ _ _ h => h
                (simp only [Act.put, List.setIfInBounds_toArray, List.set_cons_zero, List.set_cons_succ])
                refine wpAnyH_take (i := 12) (oi := ?o29) (v := ?v29) ?hi29 (by kernel_rfl) (by kernel_rfl) (by kernel_rfl) ?hq29 ?hy29 (by assumption) ?hr29
                case hi29 => (simp only [List.getElem?_toArray, List.getElem?_cons_succ, List.getElem?_cons_zero]; rfl)
                case hy29 => ((refine .inl ⟨by rfl, ?_⟩); intro w hS; go_simp; (try with_reducible rfl))
                case hq29 => exact fun _ _ _ h => h
                (simp only [Act.put, List.setIfInBounds_toArray, List.set_cons_zero, List.set_cons_succ])
                refine wpAnyH_ready (rs := [13]) (by kernel_rfl) (by simp) ?_
                refine AllReadyH.cons rfl (fun K hK => ?_) AllReadyH.nil
                go_simp
                refine hK.out _ _ (HB9.out.alloc HB9.out.size _) (fun hHeld1 => ?_)
                clear hK K
                (try simp only [Act.put, List.setIfInBounds_toArray, List.set_cons_zero, List.set_cons_succ])
                clear hHeld; have hHeld := hHeld1; clear hHeld1
                refine wpAnyH_ready (rs := [14]) (by kernel_rfl) (by simp) ?_
                refine AllReadyH.cons rfl (fun K hK => ?_) AllReadyH.nil
                go_simp
                refine hK.out _ _ (HB9.out.alloc HB9.out.size _) (fun hHeld1 => ?_)
                clear hK K
                (try simp only [Act.put, List.setIfInBounds_toArray, List.set_cons_zero, List.set_cons_succ])
                clear hHeld; have hHeld := hHeld1; clear hHeld1
                refine wpAnyH_take (i := 15) (oi := ?o30) (v := ?v30) ?hi30 (by kernel_rfl) (by kernel_rfl) (by kernel_rfl) ?hq30 ?hy30 (by assumption) ?hr30
                case hi30 => (simp only [List.getElem?_toArray, List.getElem?_cons_succ, List.getElem?_cons_zero]; rfl)
                case hy30 => ((refine .inl ⟨by rfl, ?_⟩); intro w hS; go_simp; (try with_reducible rfl))
                case hq30 => exact fun _ _ _ h => h
                (simp only [Act.put, List.setIfInBounds_toArray, List.set_cons_zero, List.set_cons_succ])
                refine wpAnyH_done (by kernel_rfl) ?_ _
                have HRW := Lib.hid (RowAt.new w9 41 #[.string xs, .int .i64 xv, .string xd])
                generalize w9.alloc (.cells #[.string xs, .int .i64 xv, .string xd] 41) = wz at *
                obtain ⟨gz, hgz⟩ : ∃ gz, w9.heap.size = gz := ⟨_, rfl⟩
                rw [hgz] at HRW ⊢
                have HR5 := Lib.hid (own_all HR4.out hHeld)
                have HL5 := Lib.hid (own_all HL4.out hHeld)
                have HB5 := Lib.hid (HB4.out.trans (hHeld.mono HB4.out.size))
                clear hw1 hHeld HR4 HL4 HB4 HB9 HQ HPC HQ6 CC hgz hlt6
                by_cases hC : CEr = 0
                · subst hC
                  have HJ1 := Lib.hid (jErr_go HJ.out HJE.out)
                  have HJS : Hid (jS ll ps k = encS [⟨xs, xv, xd⟩]) := Lib.hid (by unfold jS; rw [HX.out])
                  have hbz : Below wz.heap.size wz (wz.alloc (.cells #[.string xs, .int .i64 xv, .string xd] 41)) := (Below.refl _ _).alloc (Nat.le_refl _) _
                  have HBZ := Lib.hid hbz
                  have CE2 := Lib.hid (rencode_any (some ⟨wz.heap.size, 0, none⟩) 1 [⟨xs, xv, xd⟩] _ (oneAt (RowAt.new wz 41 #[.string xs, .int .i64 xv, .string xd]) (by simp)))
                  have hz1 := encS_size [⟨xs, xv, xd⟩]
                  have hz2 := encS_size (jG ll (k - 1))
                  generalize encS [⟨xs, xv, xd⟩] = X2 at *
                  generalize checkL [⟨xs, xv, xd⟩] = E2 at *
                  have q := HRW.out.cell
                  clear hbz
                  go_wp2_with fail
                  refine CE2.out.mono ?_
                  rintro e w7 ⟨rfl, hb7⟩
                  have HB67 := HBZ.out.trans (hb7.mono HBZ.out.size)
                  have HR7 := Lib.hid (own_all HR5.out HB67)
                  have HL7 := Lib.hid (own_all HL5.out HB67)
                  have HB7 := Lib.hid (HB5.out.trans (HB67.mono HB5.out.size))
                  clear q HRW HBZ CE2 hb7 HB67 HR5 HL5 HB5
                  obtain ⟨g, cg, hvg, hgb, hglt, _⟩ := own_form HR7.out hkp
                  injection hvg with hvg _ hcg
                  subst hvg hcg
                  have qk : w7.cell? ⟨g, k - 1, none⟩ = some (.string (encS (jG ll (k - 1)))) := by
                    rw [HR7.out.cellAt (k - 1) (by omega)]
                    exact strV_get (jnK_last hkp)
                  have fk := HR7.out.frozenAt (k - 1)
                  obtain ⟨hown8, hg8⟩ := HR7.out.stored (k - 1) (.string (encS (jG ll (k - 1)) ++ X2))
                  rw [show (strV (jnK ll ps k)).set (k - 1) (.string (encS (jG ll (k - 1)) ++ X2)) = strV ((jnK ll ps k).set (k - 1) (encS (jG ll (k - 1)) ++ X2)) by unfold strV; rw [← List.map_set]] at hown8
                  have HR8 := Lib.hid hown8
                  have HNX : Hid (strV ((jnK ll ps k).set (k - 1) (encS (jG ll (k - 1)) ++ X2)) ++ [Value.string S] = strV (jnK ll ps (k + 1))) := Lib.hid (by
                    rw [jnK_succ hkp, HJS.out, HJG.out, HSS.out]
                    simp [strV])
                  have HL8 := Lib.hid (own_grown HL7.out hg8 (own_ne HL7.out HR7.out (by decide)))
                  have HB8 := Lib.hid (HB7.out.setCell (p := ⟨g, k - 1, none⟩) hgb (.string (encS (jG ll (k - 1)) ++ X2)))
                  clear hown8 hg8 HR7 HL7 HB7
                  generalize encS (jG ll (k - 1)) = Y at *
                  go_upto_region 17 with fail
                  generalize w7.setCell ⟨g, k - 1, none⟩ (.string (Y ++ X2)) = w8 at *
                  clear qk fk
                  have HBS := Lib.hid HB8.out.size
                  go_wp2_with (at_builtin; refine wpList_app1 HR8.out info_str Try.underlying48 rfl (by unfold maxLen; omega) (by omega) HBS.out rfl rfl rfl (by rfl) (by rfl) ?_; intro v9 w9 hown9 hb9 hg9)
                  have HL9 := own_grown HL8.out hg9 (own_ne HL8.out HR8.out (by decide))
                  rw [HNX.out] at hown9
                  exact ⟨⟨k + 1, by omega, by simp, HJ1, hown9, HL9, HB8.out.trans hb9⟩, by simp [intOf]; omega⟩
                · have hCB : (CEr != 0) = true := by simpa using hC
                  have HEJ := Lib.hid (joinE_at (by rw [HN.out]; exact hlt) (by rw [HM.out, HN.out]; exact hmn) HJ.out HJE.out hC)
                  go_wp2_with fail
                  go_ret2
                  exact JoinRes.no HEJ.out hC HB5.out
              · skip
                go_simp
                refine hK.out _ _ (hHeld.alloc hHeld.size _) (fun hHeld1 => ?_)
                clear hK K
                (try simp only [Act.put, List.setIfInBounds_toArray, List.set_cons_zero, List.set_cons_succ])
                have HBD := Lib.hid hHeld
                clear hHeld; have hHeld := hHeld1; clear hHeld1
                refine wpAnyH_ready (rs := [9]) (by kernel_rfl) (by simp) ?_
                refine AllReadyH.cons rfl (fun K hK => ?_) AllReadyH.nil
                go_simp
                go_wp2_with (((with_reducible refine (CC.out _).mono ?_); rintro e w9 ⟨rfl, hb9⟩))
                refine hK.out _ _ (hHeld.trans (hb9.mono hHeld.size)) (fun hHeld1 => ?_)
                clear hK K
                (try simp only [Act.put, List.setIfInBounds_toArray, List.set_cons_zero, List.set_cons_succ])
                have hr9 := (RowAt.new wd 41 #[.string ⟨#[]⟩, .int .i64 0, .string ⟨#[]⟩]).below hb9 (by simp)
                have q := hr9.cell
                have f := hr9.frozen
                have HR9 := Lib.hid hr9
                have HB9 := Lib.hid hHeld1
                clear hb9 hr9
                clear hHeld; have hHeld := hHeld1; clear hHeld1
                refine wpAnyH_take (i := 10) (oi := ?o31) (v := ?v31) ?hi31 (by kernel_rfl) (by kernel_rfl) (by kernel_rfl) ?hq31 ?hy31 (by assumption) ?hr31
                case hi31 => (simp only [List.getElem?_toArray, List.getElem?_cons_succ, List.getElem?_cons_zero]; rfl)
                case hy31 => ((refine .inl ⟨by rfl, ?_⟩); intro w hS; go_simp; (try with_reducible rfl))
                case hq31 => exact fun _ _ _ h => h
                (simp only [Act.put, List.setIfInBounds_toArray, List.set_cons_zero, List.set_cons_succ])
                refine wpAnyH_take (i := 11) (oi := ?o32) (v := ?v32) ?hi32 (by kernel_rfl) (by kernel_rfl) (by kernel_rfl) ?hq32 ?hy32 (by assumption) ?hr32
                case hi32 => (simp only [List.getElem?_toArray, List.getElem?_cons_succ, List.getElem?_cons_zero]; rfl)
                case hy32 => ((refine .inl ⟨by rfl, ?_⟩); intro w hS; go_simp; (try with_reducible rfl))
                case hq32 => exact fun _ _ _ h => h
                (simp only [Act.put, List.setIfInBounds_toArray, List.set_cons_zero, List.set_cons_succ])
                refine wpAnyH_take (i := 12) (oi := ?o33) (v := ?v33) ?hi33 (by kernel_rfl) (by kernel_rfl) (by kernel_rfl) ?hq33 ?hy33 (by assumption) ?hr33
                case hi33 => (simp only [List.getElem?_toArray, List.getElem?_cons_succ, List.getElem?_cons_zero]; rfl)
                case hy33 => ((refine .inl ⟨by rfl, ?_⟩); intro w hS; go_simp; (try with_reducible rfl))
                case hq33 => exact fun _ _ _ h => h
                (simp only [Act.put, List.setIfInBounds_toArray, List.set_cons_zero, List.set_cons_succ])
                refine wpAnyH_ready (rs := [14]) (by kernel_rfl) (by simp) ?_
                refine AllReadyH.cons rfl (fun K hK => ?_) AllReadyH.nil
                go_simp
                refine hK.out _ _ (((HB9.out.setCell (p := ⟨wd.heap.size, 0, none⟩) HBD.out.size _).setCell (p := ⟨wd.heap.size, 1, none⟩) HBD.out.size _).setCell (p := ⟨wd.heap.size, 2, none⟩) HBD.out.size _) (fun hHeld1 => ?_)
                clear hK K
                (try simp only [Act.put, List.setIfInBounds_toArray, List.set_cons_zero, List.set_cons_succ])
                clear hHeld; have hHeld := hHeld1; clear hHeld1
                refine wpAnyH_take (i := 15) (oi := ?o34) (v := ?v34) ?hi34 (by kernel_rfl) (by kernel_rfl) (by kernel_rfl) ?hq34 ?hy34 (by assumption) ?hr34
                case hi34 => (simp only [List.getElem?_toArray, List.getElem?_cons_succ, List.getElem?_cons_zero]; rfl)
                case hy34 => ((refine .inl ⟨by rfl, ?_⟩); intro w hS; go_simp; (try with_reducible rfl))
                case hq34 => exact fun _ _ _ h => h
                (simp only [Act.put, List.setIfInBounds_toArray, List.set_cons_zero, List.set_cons_succ])
                refine wpAnyH_done (by kernel_rfl) ?_ _
                have HRW := Lib.hid (((HR9.out.set_ 0 (.string xs)).set_ 1 (.int .i64 xv)).set_ 2 (.string xd))
                clear q f
                generalize ((w9.setCell ⟨wd.heap.size, 0, none⟩ (.string xs)).setCell ⟨wd.heap.size, 1, none⟩ (.int .i64 xv)).setCell ⟨wd.heap.size, 2, none⟩ (.string xd) = wz at *
                obtain ⟨gz, hgz⟩ : ∃ gz, wd.heap.size = gz := ⟨_, rfl⟩
                rw [hgz] at HRW ⊢
                have HR5 := Lib.hid (own_all HR4.out hHeld)
                have HL5 := Lib.hid (own_all HL4.out hHeld)
                have HB5 := Lib.hid (HB4.out.trans (hHeld.mono HB4.out.size))
                clear hw1 hHeld HR4 HL4 HB4 HB9 HQ HPC HQ6 CC hgz hlt6
                by_cases hC : CEr = 0
                · subst hC
                  have HJ1 := Lib.hid (jErr_go HJ.out HJE.out)
                  have HJS : Hid (jS ll ps k = encS [⟨xs, xv, xd⟩]) := Lib.hid (by unfold jS; rw [HX.out])
                  have hbz : Below wz.heap.size wz (wz.alloc (.cells #[.string xs, .int .i64 xv, .string xd] 41)) := (Below.refl _ _).alloc (Nat.le_refl _) _
                  have HBZ := Lib.hid hbz
                  have CE2 := Lib.hid (rencode_any (some ⟨wz.heap.size, 0, none⟩) 1 [⟨xs, xv, xd⟩] _ (oneAt (RowAt.new wz 41 #[.string xs, .int .i64 xv, .string xd]) (by simp)))
                  have hz1 := encS_size [⟨xs, xv, xd⟩]
                  have hz2 := encS_size (jG ll (k - 1))
                  generalize encS [⟨xs, xv, xd⟩] = X2 at *
                  generalize checkL [⟨xs, xv, xd⟩] = E2 at *
                  have q := HRW.out.cell
                  clear hbz
                  go_wp2_with fail
                  refine CE2.out.mono ?_
                  rintro e w7 ⟨rfl, hb7⟩
                  have HB67 := HBZ.out.trans (hb7.mono HBZ.out.size)
                  have HR7 := Lib.hid (own_all HR5.out HB67)
                  have HL7 := Lib.hid (own_all HL5.out HB67)
                  have HB7 := Lib.hid (HB5.out.trans (HB67.mono HB5.out.size))
                  clear q HRW HBZ CE2 hb7 HB67 HR5 HL5 HB5
                  obtain ⟨g, cg, hvg, hgb, hglt, _⟩ := own_form HR7.out hkp
                  injection hvg with hvg _ hcg
                  subst hvg hcg
                  have qk : w7.cell? ⟨g, k - 1, none⟩ = some (.string (encS (jG ll (k - 1)))) := by
                    rw [HR7.out.cellAt (k - 1) (by omega)]
                    exact strV_get (jnK_last hkp)
                  have fk := HR7.out.frozenAt (k - 1)
                  obtain ⟨hown8, hg8⟩ := HR7.out.stored (k - 1) (.string (encS (jG ll (k - 1)) ++ X2))
                  rw [show (strV (jnK ll ps k)).set (k - 1) (.string (encS (jG ll (k - 1)) ++ X2)) = strV ((jnK ll ps k).set (k - 1) (encS (jG ll (k - 1)) ++ X2)) by unfold strV; rw [← List.map_set]] at hown8
                  have HR8 := Lib.hid hown8
                  have HNX : Hid (strV ((jnK ll ps k).set (k - 1) (encS (jG ll (k - 1)) ++ X2)) ++ [Value.string S] = strV (jnK ll ps (k + 1))) := Lib.hid (by
                    rw [jnK_succ hkp, HJS.out, HJG.out, HSS.out]
                    simp [strV])
                  have HL8 := Lib.hid (own_grown HL7.out hg8 (own_ne HL7.out HR7.out (by decide)))
                  have HB8 := Lib.hid (HB7.out.setCell (p := ⟨g, k - 1, none⟩) hgb (.string (encS (jG ll (k - 1)) ++ X2)))
                  clear hown8 hg8 HR7 HL7 HB7
                  generalize encS (jG ll (k - 1)) = Y at *
                  go_upto_region 17 with fail
                  generalize w7.setCell ⟨g, k - 1, none⟩ (.string (Y ++ X2)) = w8 at *
                  clear qk fk
                  have HBS := Lib.hid HB8.out.size
                  go_wp2_with (at_builtin; refine wpList_app1 HR8.out info_str Try.underlying48 rfl (by unfold maxLen; omega) (by omega) HBS.out rfl rfl rfl (by rfl) (by rfl) ?_; intro v9 w9 hown9 hb9 hg9)
                  have HL9 := own_grown HL8.out hg9 (own_ne HL8.out HR8.out (by decide))
                  rw [HNX.out] at hown9
                  exact ⟨⟨k + 1, by omega, by simp, HJ1, hown9, HL9, HB8.out.trans hb9⟩, by simp [intOf]; omega⟩
                · have hCB : (CEr != 0) = true := by simpa using hC
                  have HEJ := Lib.hid (joinE_at (by rw [HN.out]; exact hlt) (by rw [HM.out, HN.out]; exact hmn) HJ.out HJE.out hC)
                  go_wp2_with fail
                  go_ret2
                  exact JoinRes.no HEJ.out hC HB5.out
          · have HEJ := Lib.hid (joinE_at (by rw [HN.out]; exact hlt) (by rw [HM.out, HN.out]; exact hmn) HJ.out (show jE ll ps k = E by unfold jE; rw [HJG.out, if_neg (by rw [HE.out]; exact hE0), HE.out]) hE0)
            have hE0B : (E != 0) = true := by simpa using hE0
            go_wp2_with fail
            refine CE.out.mono ?_
            rintro e w3 ⟨rfl, hb3⟩
            have HB3 := Lib.hid (HB.out.trans (hb3.mono hbs))
            clear hb3 CE
            go_wp2_with fail
            go_ret2
            exact JoinRes.no HEJ.out hE0 HB3.out
        · obtain rfl : k = n := by omega
          have hge : ¬ (k : Int) < (k : Int) := by omega
          have HE : Hid (joinE ll ps = 0) := Lib.hid (by unfold joinE; rw [if_neg (by rw [HN.out, HM.out]; omega), HN.out]; exact HJ.out)
          have HRR : Hid (joinR ll ps = jnK ll ps k) := Lib.hid (by unfold joinR; rw [if_pos HE.out, HN.out])
          go_wp2_with fail
          go_ret2
          refine ⟨HB.out, Ao, co, ?_, ?_⟩
          · rw [HRR.out, HE.out, jnK_length]; rfl
          · rw [HRR.out]
            exact SlAt.of_own' HR.out (Nat.le_refl _)
    · have hmnB : ((m : Int) != (n : Int) - 1) = true := by simp; omega
      have h0B : ((n : Int) == 0) = false := by simp; omega
      have HE := Lib.hid (show joinE ll ps = 1 by unfold joinE; rw [if_pos (.inr (by rw [HN.out, HM.out]; exact hmn))])
      go_enter Try.func38, Try.ntmps38
      go_wp2_with fail
      go_ret2
      exact JoinRes.no HE.out (by decide) (Below.refl _ _)
end Go.Proofs.Ytnomodbcpndocaa
