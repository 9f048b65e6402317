/-
  Chapter 24: Join of the program.
-/
import Derived.Test.YtnomodbcpndocaaSuR
import Derived.Deep.Cut
namespace Go.Proofs.Ytnomodbcpndocaa
open Go.RowKit
set_option linter.unusedVariables false

theorem made_strs (n : Nat) : (madeCells (Value.string ⟨#[]⟩).cells (n * 1)).toList = strV (List.replicate n ⟨#[]⟩) := by
  simp [madeCells, strV, Value.cells]
  refine List.eq_replicate_iff.2 ⟨by simp, fun b hb => ?_⟩
  obtain ⟨x, _, rfl⟩ := List.mem_map.1 hb
  simp [Nat.mod_one]
theorem row_set {l : List ByteArray} {k m : Nat} {s : ByteArray} (h : l.length = k) : (strV (l ++ List.replicate (m + 1) ⟨#[]⟩)).set k (.string s) = strV ((l ++ [s]) ++ List.replicate m ⟨#[]⟩) := by
  subst h
  unfold strV
  rw [List.replicate_succ, ← List.map_set]
  congr 1
  simp
theorem row_set2 {l r : List ByteArray} {k : Nat} {s : ByteArray} (h : k < l.length) : (strV (l ++ r)).set k (.string s) = strV (l.set k s ++ r) := by
  unfold strV
  rw [← List.map_set]
  congr 1
  rw [List.set_append]
  rw [if_pos h]
theorem strV_get {l : List ByteArray} {k : Nat} {s : ByteArray} (h : l[k]? = some s) : (strV l)[k]? = some (.string s) := by unfold strV; rw [List.getElem?_map, h]; rfl
theorem set_at {l : List ByteArray} {x s : ByteArray} {k : Nat} (h : l.length = k) {j : Nat} (hj : j < k) : (l ++ [x]).set j s = l.set j s ++ [x] := by
  rw [List.set_append, if_pos (by omega)]
theorem contX_sg (a o l : Int) : (contX a o l).sg.size ≤ 2 := by
  unfold contX
  split
  · exact Nat.le_refl 2
  · exact Nat.zero_le _
theorem oneAt {W : World} {g : Nat} {sg d : ByteArray} {v : Int} {C : Nat} (h : RowAt W g 41 #[.string sg, .int .i64 v, .string d]) (hg : g < C) : EnAt W C (some ⟨g, 0, none⟩) [⟨sg, v, d⟩] := fun j u hu =>
  ⟨g, 0, rfl, hg, by rw [Nat.zero_add, h.cell j]; simpa [flat, encE] using hu⟩

set_option maxRecDepth 100000 in
set_option maxHeartbeats 8000000 in
theorem join_any (A Ap : Option Addr) (c cp : Nat) (hs : List Value) (ll : List (List Ent)) (ps : List Pl) (w : World) (h : SlAt w w.heap.size A hs) (hG : GrAt w w.heap.size hs ll) (hP : PlAt w w.heap.size Ap ps) (hl : ll.length ≤ 1000) (hpl : ps.length ≤ 1000000)
    (hz : ∀ l ∈ ll, sizeL l ≤ 1000000) (hsg : ∀ l ∈ ll, ∀ x ∈ l, x.sg.size ≤ 140737488351232) (hpg : ∀ p ∈ ps, PlG p) :
    Calls Try.prog 33 #[.slice A ll.length c, .slice Ap ps.length cp] w (JoinRes ll ps w) := by
  have HS := Lib.hid h
  have HG := Lib.hid hG
  have HP := Lib.hid hP
  have HN1 := Lib.hid hG.1
  have HSG := Lib.hid hsg
  have HPG := Lib.hid hpg
  have HZ := Lib.hid hz
  have CL := Lib.hid (lengths_any A c hs ll w h hG (by omega) (fun l hl => by have := hz l hl; omega))
  obtain ⟨n, hn⟩ : ∃ n, ll.length = n := ⟨_, rfl⟩
  obtain ⟨m, hm⟩ : ∃ m, ps.length = m := ⟨_, rfl⟩
  have HN := Lib.hid hn
  have HM := Lib.hid hm
  unfold LenRes at CL
  rw [hn] at hl HN1 CL ⊢
  rw [hm] at hpl ⊢
  clear h hG hP hn hm hsg hpg hz
  by_cases h0 : n = 0
  · subst h0
    have HE := Lib.hid (show joinE ll ps = 1 by unfold joinE; rw [if_pos (.inl HN.out)])
    go_enter Try.func33, Try.ntmps33
    go_wp2_with fail
    go_ret2
    exact JoinRes.no HE.out (by decide) (Below.refl _ _)
  · have h0I : ¬ (n : Int) = 0 := by omega
    by_cases hmn : m + 1 = n
    · have hmnI : (m : Int) = (n : Int) - 1 := by omega
      have hmnB : ((m : Int) != (n : Int) - 1) = false := by simp; omega
      have h0B : ((n : Int) == 0) = false := by simp; omega
      clear hmnI
      go_enter Try.func33, Try.ntmps33
      go_wp2_with fail
      refine CL.out.mono ?_
      rintro e w1 ⟨hb1, A6, c6, rfl, hc6, hown6⟩
      have HO6 := Lib.hid hown6
      have HB1 := Lib.hid hb1
      clear hown6 hb1 CL hc6 h0B hmnB
      obtain ⟨i0, hi, hz0, hz1, hz2⟩ := info_parts info_str
      go_wp2_with (at_make; refine wpList_make_full _ rfl _ _ _ rfl w1.heap.size 9 i0 _ 1 Try.underlying48 hi hz0 hz1 _ _ _ _ n rfl rfl rfl rfl (by rw [hz2]; omega) (by unfold maxLen; omega) (Nat.le_refl _) ?_; intro w2 hown2 hg2)
      have hb2 : Below w1.heap.size w1 w2 := (Below.refl _ _).grown hg2 (Nat.le_refl _) (fun k hk => by cases hk)
      have hrow : w2.ownsRow w.heap.size 9 1 (.slice (some ⟨w1.heap.size, 0, none⟩) n n) n (strV (jnK ll ps 0 ++ List.replicate n ⟨#[]⟩)) := by
        have h1 := own_base hown2 HB1.out.size
        have h2 : (madeCells (Value.string ⟨#[]⟩).cells (n * 1)).toList = strV (jnK ll ps 0 ++ List.replicate n ⟨#[]⟩) := by
          rw [show jnK ll ps 0 = [] from rfl, List.nil_append, made_strs]
        rw [← h2]
        exact h1
      have HR2 := Lib.hid hrow
      have HL2 := Lib.hid (own_all HO6.out hb2)
      have HB2 := Lib.hid (HB1.out.trans (hb2.mono HB1.out.size))
      have hgb : w.heap.size ≤ w1.heap.size := HB1.out.size
      obtain ⟨g, hg⟩ : ∃ g, w1.heap.size = g := ⟨_, rfl⟩
      rw [hg] at HR2 hgb ⊢
      clear hown2 hg2 hb2 hrow hi hz0 hz1 hz2 HO6 HB1 hg
      go_wp2_with fail
      go_loopw [33] (fun i wr => ∃ k : Nat, k ≤ n ∧ i = .int .i64 k ∧ Hid (jErr ll ps k = 0) ∧ wr.ownsRow w.heap.size 9 1 (.slice (some ⟨g, 0, none⟩) n n) n (strV (jnK ll ps k ++ List.replicate (n - k) ⟨#[]⟩)) ∧ wr.ownsRow w.heap.size 3 1 (.slice A6 n c6) n (intV (lenL ll)) ∧ Below w.heap.size w wr) (fun i _ => n - (intOf i).toNat)
      case atStart => exact ⟨0, by omega, rfl, Lib.hid rfl, HR2.out, HL2.out, HB2.out⟩
      case round =>
        clear HR2 HL2 HB2
        obtain ⟨k, hk, rfl, HJ, hrow, hlen, hbel⟩ := hrel
        have HR := Lib.hid hrow
        have HL := Lib.hid hlen
        have HB := Lib.hid hbel
        have hbs := hbel.size
        clear hrow hlen hbel
        by_cases hlt : k < n
        · obtain ⟨l, hx⟩ : ∃ s, ll[k]? = some s := ⟨ll[k]'(by rw [HN.out]; exact hlt), List.getElem?_eq_getElem _⟩
          obtain ⟨b, off, hA, hbk⟩ := HS.out.addr (by rw [HN1.out]; omega)
          subst hA
          obtain ⟨P, cl, e1, _, hPl⟩ := HG.out.2 k l hx
          have g1 := (HS.out.below HB.out).val rfl e1
          have hltI : (k : Int) < (n : Int) := by omega
          have h0k : (0 : Int) ≤ (k : Int) := by omega
          have CE := Lib.hid (encode_any P cl l wr ((hPl.below HB.out).mono hbs) (fun _ => HSG.out l (List.mem_of_getElem? hx)))
          have HJG : Hid (jG ll k = l) := Lib.hid (by unfold jG; rw [hx]; rfl)
          have hjL : (lenL ll)[k]? = some (jL ll k) := by unfold jL; rw [lenL_get ll k l hx]; rfl
          have HJL := Lib.hid hjL
          have HJB : Hid (jL ll k < 9223372036854775808) := Lib.hid (by
            unfold jL
            rw [lenL_get ll k l hx, Option.getD_some]
            have := HZ.out l (List.mem_of_getElem? hx)
            split <;> omega)
          have hxz := encS_size l
          obtain ⟨E, hE⟩ : ∃ E, checkL l = E := ⟨_, rfl⟩
          have HE := Lib.hid hE
          obtain ⟨S, hSS⟩ : ∃ S, encS l = S := ⟨_, rfl⟩
          have HSS := Lib.hid hSS
          obtain ⟨ln, hln⟩ : ∃ ln, l.length = ln := ⟨_, rfl⟩
          rw [hE, hSS, hln] at CE
          rw [hln] at g1
          rw [hSS] at hxz
          clear hx e1 hPl hE hSS hln hjL
          by_cases hE0 : E = 0
          · subst hE0
            go_wp2_with fail
            refine CE.out.mono ?_
            rintro e w3 ⟨rfl, hb3⟩
            clear CE g1
            have HR3 := Lib.hid (own_all HR.out hb3)
            have HL3 := Lib.hid (own_all HL.out hb3)
            have HB3 := Lib.hid (HB.out.trans (hb3.mono hbs))
            clear hb3 HR HL HB hbs
            have qk : w3.cell? ⟨g, k, none⟩ = some (.string ⟨#[]⟩) := by
              rw [HR3.out.cellAt k (by omega)]
              refine strV_get ?_
              rw [List.getElem?_append_right (by rw [jnK_length]; exact Nat.le_refl _), jnK_length, Nat.sub_self, List.getElem?_replicate, if_pos (by omega)]
            have fk := HR3.out.frozenAt k
            obtain ⟨hown4, hg4⟩ := HR3.out.stored k (.string S)
            rw [show n - k = (n - k - 1) + 1 by omega, row_set (jnK_length k)] at hown4
            have HR4 := Lib.hid hown4
            have HL4 := Lib.hid (own_grown HL3.out hg4 (own_ne HL3.out HR3.out (by decide)))
            have HB4 := Lib.hid (HB3.out.setCell (p := ⟨g, k, none⟩) hgb (.string S))
            clear hown4 hg4 HR3 HL3
            by_cases hk0 : k = 0
            · subst hk0
              have HJ1 : Hid (jErr ll ps (0 + 1) = 0) := Lib.hid (jErr_go HJ.out (by unfold jE; rw [HJG.out, if_pos HE.out]; rfl))
              have HR5 : Hid ((w3.setCell ⟨g, 0, none⟩ (.string S)).ownsRow w.heap.size 9 1 (.slice (some ⟨g, 0, none⟩) n n) n (strV (jnK ll ps (0 + 1) ++ List.replicate (n - (0 + 1)) ⟨#[]⟩))) := Lib.hid (by
                have h1 := HR4.out
                rw [show jnK ll ps 0 = [] from rfl, List.nil_append] at h1
                rw [show jnK ll ps (0 + 1) = [S] by rw [← HSS.out, ← HJG.out]; rfl]
                exact h1)
              clear HR4 HB3
              go_wp2_with fail
              refine ⟨⟨1, by omega, by simp, HJ1, HR5.out, HL4.out, HB4.out⟩, by simp [intOf]; omega⟩
            · have hk0B : ((k : Int) == 0) = false := by simp; omega
              obtain ⟨p, hp⟩ : ∃ p, ps[k - 1]? = some p := ⟨ps[k - 1]'(by rw [HM.out]; omega), List.getElem?_eq_getElem _⟩
              obtain ⟨bp, offp, hAp, hbp⟩ := HP.out.one (by rw [HM.out]; omega)
              subst hAp
              have hJP : jP ps (k - 1) = p := by unfold jP; rw [hp]; rfl
              have hpg := HPG.out p (List.mem_of_getElem? hp)
              have HPC := Lib.hid (fun w' (hb : Below w.heap.size w w') => (HP.out.below hb).cells rfl hp)
              have CC := Lib.hid (fun w => continuation_any p.lba p.off (jL ll k) w hpg.lba hpg.off HJB.out)
              obtain ⟨go6, cap6, hv6, _, hg6lt, _⟩ := own_form HL4.out (by omega)
              injection hv6 with hA6 _ hc6
              subst hA6 hc6
              have q6 : (w3.setCell ⟨g, k, none⟩ (.string S)).cell? ⟨go6, k, none⟩ = some (.int .i64 (jL ll k)) := by
                rw [HL4.out.cellAt k (by omega)]
                unfold intV
                rw [List.getElem?_map, HJL.out]
                rfl
              have HX : Hid (jX ll ps k = contX p.lba p.off (jL ll k)) := Lib.hid (by unfold jX; rw [hJP])
              have HJE : Hid (jE ll ps k = contE p.lba p.off (jL ll k)) := Lib.hid (by unfold jE; rw [HJG.out, if_pos HE.out, if_neg hk0, hJP])
              obtain ⟨pa, po⟩ := p
              dsimp only at HPC CC HX HJE
              generalize jL ll k = JL at *
              have hxsg := contX_sg pa po JL
              obtain ⟨⟨xs, xv, xd⟩, hXX⟩ : ∃ X, contX pa po JL = X := ⟨_, rfl⟩
              rw [hXX] at CC HX hxsg
              dsimp only at hxsg
              generalize contE pa po JL = CEr at *
              have HQ6 := Lib.hid q6
              have hkm : (k : Int) - 1 < (m : Int) := by omega
              have hkm0 : (0 : Int) ≤ (k : Int) - 1 := by omega
              have hkmN : ((k : Int) - 1).toNat = k - 1 := by omega
              have hkp : 0 < k := by omega
              have hk1 : (1 : Int) ≤ (k : Int) := by omega
              unfold entV at CC
              dsimp only at CC
              clear hp hJP hpg q6 hXX HB3 hk0
              go_upto_region 13 with fail
              generalize (w3.setCell ⟨g, k, none⟩ (.string S)) = w4 at *
              have hlt6 : go6 < w4.heap.size := hg6lt
              have HQ : Hid (∀ w', Below w4.heap.size w4 w' → (w'.cell? ⟨bp, offp + (k - 1) * 2, none⟩ = some (.int .i64 pa) ∧ w'.cell? ⟨bp, offp + (k - 1) * 2 + 1, none⟩ = some (.int .i64 po)) ∧ w'.cell? ⟨go6, k, none⟩ = some (.int .i64 JL)) := Lib.hid (fun w' hb =>
                ⟨HPC.out w' (HB4.out.trans (hb.mono HB4.out.size)), (hb.cell (p := ⟨go6, k, none⟩) hlt6).trans HQ6.out⟩)
              clear qk fk hg6lt
              refine wp_region_held_drew (S := (fun w' => Below w4.heap.size w4 w')) (by kernel_rfl) ((Below.refl _ _).drew) (fun hHeld => ?_)
              generalize w4.drew = wd at *
              have hw1 : IntKind.i64.wrap ((k : Int) - 1) = (k : Int) - 1 := IntWalk.i64_in _ (by omega)
              refine wpAnyH_take (i := 0) (oi := ?o1) (v := ?v1) ?hi1 (by kernel_rfl) (by kernel_rfl) (by kernel_rfl) ?hq1 ?hy1 (by assumption) ?hr1
              case hi1 => (simp only [List.getElem?_toArray, List.getElem?_cons_zero]; rfl)
              case hy1 => ((refine .inl ⟨by rfl, ?_⟩); intro w hS; go_simp; (try with_reducible rfl))
              case hq1 => exact fun _ _ _ h => h
              (simp only [Act.put, List.setIfInBounds_toArray, List.set_cons_zero, List.set_cons_succ])
              refine wpAnyH_take (i := 1) (oi := ?o2) (v := ?v2) ?hi2 (by kernel_rfl) (by kernel_rfl) (by kernel_rfl) ?hq2 ?hy2 (by assumption) ?hr2
              case hi2 => (simp only [List.getElem?_toArray, List.getElem?_cons_succ, List.getElem?_cons_zero]; rfl)
              case hy2 => ((refine .inl ⟨by rfl, ?_⟩); intro w hS; go_simp; (try with_reducible rfl))
              case hq2 => exact fun _ _ _ h => h
              (simp only [Act.put, List.setIfInBounds_toArray, List.set_cons_zero, List.set_cons_succ])
              refine wpAnyH_take (i := 2) (oi := ?o3) (v := ?v3) ?hi3 (by kernel_rfl) (by kernel_rfl) (by kernel_rfl) ?hq3 ?hy3 (by assumption) ?hr3
              case hi3 => (simp only [List.getElem?_toArray, List.getElem?_cons_succ, List.getElem?_cons_zero]; rfl)
              case hy3 => ((refine .inl ⟨by rfl, ?_⟩); intro w hS; go_simp; (try with_reducible rfl))
              case hq3 => exact fun _ _ _ h => h
              (simp only [Act.put, List.setIfInBounds_toArray, List.set_cons_zero, List.set_cons_succ])
              refine wpAnyH_take (i := 3) (oi := ?o4) (v := ?v4) ?hi4 (by kernel_rfl) (by kernel_rfl) (by kernel_rfl) ?hq4 ?hy4 (by assumption) ?hr4
              case hi4 => (simp only [List.getElem?_toArray, List.getElem?_cons_succ, List.getElem?_cons_zero]; rfl)
              case hy4 => ((refine .inl ⟨by rfl, ?_⟩); intro w hS; go_simp; (try with_reducible rfl))
              case hq4 => exact fun _ _ _ h => h
              (simp only [Act.put, List.setIfInBounds_toArray, List.set_cons_zero, List.set_cons_succ])
              refine wpAnyH_take (i := 4) (oi := ?o5) (v := ?v5) ?hi5 (by kernel_rfl) (by kernel_rfl) (by kernel_rfl) ?hq5 ?hy5 (by assumption) ?hr5
              case hi5 => (simp only [List.getElem?_toArray, List.getElem?_cons_succ, List.getElem?_cons_zero]; rfl)
              case hy5 => ((refine .inl ⟨by rfl, ?_⟩); intro w hS; have q := (HQ.out _ hS).1; go_simp; (try with_reducible rfl))
              case hq5 => exact fun _ _ _ h => h
              (simp only [Act.put, List.setIfInBounds_toArray, List.set_cons_zero, List.set_cons_succ])
              refine wpAnyH_take (i := 5) (oi := ?o6) (v := ?v6) ?hi6 (by kernel_rfl) (by kernel_rfl) (by kernel_rfl) ?hq6 ?hy6 (by assumption) ?hr6
              case hi6 => (simp only [List.getElem?_toArray, List.getElem?_cons_succ, List.getElem?_cons_zero]; rfl)
              case hy6 => ((refine .inl ⟨by rfl, ?_⟩); intro w hS; go_simp; (try with_reducible rfl))
              case hq6 => exact fun _ _ _ h => h
              (simp only [Act.put, List.setIfInBounds_toArray, List.set_cons_zero, List.set_cons_succ])
              refine wpAnyH_take (i := 6) (oi := ?o7) (v := ?v7) ?hi7 (by kernel_rfl) (by kernel_rfl) (by kernel_rfl) ?hq7 ?hy7 (by assumption) ?hr7
              case hi7 => (simp only [List.getElem?_toArray, List.getElem?_cons_succ, List.getElem?_cons_zero]; rfl)
              case hy7 => ((refine .inl ⟨by rfl, ?_⟩); intro w hS; go_simp; (try with_reducible rfl))
              case hq7 => exact fun _ _ _ h => h
              (simp only [Act.put, List.setIfInBounds_toArray, List.set_cons_zero, List.set_cons_succ])
              refine wpAnyH_take (i := 7) (oi := ?o8) (v := ?v8) ?hi8 (by kernel_rfl) (by kernel_rfl) (by kernel_rfl) ?hq8 ?hy8 (by assumption) ?hr8
              case hi8 => (simp only [List.getElem?_toArray, List.getElem?_cons_succ, List.getElem?_cons_zero]; rfl)
              case hy8 => ((refine .inl ⟨by rfl, ?_⟩); intro w hS; go_simp; (try with_reducible rfl))
              case hq8 => exact fun _ _ _ h => h
              (simp only [Act.put, List.setIfInBounds_toArray, List.set_cons_zero, List.set_cons_succ])
              refine wpAnyH_take (i := 8) (oi := ?o9) (v := ?v9) ?hi9 (by kernel_rfl) (by kernel_rfl) (by kernel_rfl) ?hq9 ?hy9 (by assumption) ?hr9
              case hi9 => (simp only [List.getElem?_toArray, List.getElem?_cons_succ, List.getElem?_cons_zero]; rfl)
              case hy9 => ((refine .inl ⟨by rfl, ?_⟩); intro w hS; have q := (HQ.out _ hS).2; go_simp; (try with_reducible rfl))
              case hq9 => exact fun _ _ _ h => h
              (simp only [Act.put, List.setIfInBounds_toArray, List.set_cons_zero, List.set_cons_succ])
              refine wpAnyH_ready (rs := [9, 13]) (by kernel_rfl) (by simp) ?_
              refine AllReadyH.cons rfl (fun K hK => ?_) (AllReadyH.cons rfl (fun K hK => ?_) AllReadyH.nil)
              · skip
                go_simp
                go_wp2_with (((with_reducible refine (CC.out _).mono ?_); rintro e w9 ⟨rfl, hb9⟩))
                refine hK.out _ _ (hHeld.trans (hb9.mono hHeld.size)) (fun hHeld1 => ?_)
                clear hK K
                (try simp only [Act.put, List.setIfInBounds_toArray, List.set_cons_zero, List.set_cons_succ])
                have HB9 := Lib.hid hHeld1
                clear hb9
                clear hHeld; have hHeld := hHeld1; clear hHeld1
                refine wpAnyH_take (i := 10) (oi := ?o10) (v := ?v10) ?hi10 (by kernel_rfl) (by kernel_rfl) (by kernel_rfl) ?hq10 ?hy10 (by assumption) ?hr10
                case hi10 => (simp only [List.getElem?_toArray, List.getElem?_cons_succ, List.getElem?_cons_zero]; rfl)
                case hy10 => ((refine .inl ⟨by rfl, ?_⟩); intro w hS; go_simp; (try with_reducible rfl))
                case hq10 => exact fun _ _ _ h => h
                (simp only [Act.put, List.setIfInBounds_toArray, List.set_cons_zero, List.set_cons_succ])
                refine wpAnyH_take (i := 11) (oi := ?o11) (v := ?v11) ?hi11 (by kernel_rfl) (by kernel_rfl) (by kernel_rfl) ?hq11 ?hy11 (by assumption) ?hr11
                case hi11 => (simp only [List.getElem?_toArray, List.getElem?_cons_succ, List.getElem?_cons_zero]; rfl)
                case hy11 => ((refine .inl ⟨by rfl, ?_⟩); intro w hS; go_simp; (try with_reducible rfl))
                case hq11 => exact fun _ _ _ h => h
                (simp only [Act.put, List.setIfInBounds_toArray, List.set_cons_zero, List.set_cons_succ])
                refine wpAnyH_take (i := 12) (oi := ?o12) (v := ?v12) ?hi12 (by kernel_rfl) (by kernel_rfl) (by kernel_rfl) ?hq12 ?hy12 (by assumption) ?hr12
                case hi12 => (simp only [List.getElem?_toArray, List.getElem?_cons_succ, List.getElem?_cons_zero]; rfl)
                case hy12 => ((refine .inl ⟨by rfl, ?_⟩); intro w hS; go_simp; (try with_reducible rfl))
                case hq12 => exact fun _ _ _ h => h
                (simp only [Act.put, List.setIfInBounds_toArray, List.set_cons_zero, List.set_cons_succ])
                refine wpAnyH_ready (rs := [13]) (by kernel_rfl) (by simp) ?_
                refine AllReadyH.cons rfl (fun K hK => ?_) AllReadyH.nil
                go_simp
                refine hK.out _ _ (HB9.out.alloc HB9.out.size _) (fun hHeld1 => ?_)
                clear hK K
                (try simp only [Act.put, List.setIfInBounds_toArray, List.set_cons_zero, List.set_cons_succ])
                clear hHeld; have hHeld := hHeld1; clear hHeld1
                refine wpAnyH_ready (rs := [14]) (by kernel_rfl) (by simp) ?_
                refine AllReadyH.cons rfl (fun K hK => ?_) AllReadyH.nil
                go_simp
                refine hK.out _ _ (HB9.out.alloc HB9.out.size _) (fun hHeld1 => ?_)
                clear hK K
                (try simp only [Act.put, List.setIfInBounds_toArray, List.set_cons_zero, List.set_cons_succ])
                clear hHeld; have hHeld := hHeld1; clear hHeld1
                refine wpAnyH_take (i := 15) (oi := ?o13) (v := ?v13) ?hi13 (by kernel_rfl) (by kernel_rfl) (by kernel_rfl) ?hq13 ?hy13 (by assumption) ?hr13
                case hi13 => (simp only [List.getElem?_toArray, List.getElem?_cons_succ, List.getElem?_cons_zero]; rfl)
                case hy13 => ((refine .inl ⟨by rfl, ?_⟩); intro w hS; go_simp; (try with_reducible rfl))
                case hq13 => exact fun _ _ _ h => h
                (simp only [Act.put, List.setIfInBounds_toArray, List.set_cons_zero, List.set_cons_succ])
                refine wpAnyH_done (by kernel_rfl) ?_ _
                have HRW := Lib.hid (RowAt.new w9 41 #[.string xs, .int .i64 xv, .string xd])
                generalize w9.alloc (.cells #[.string xs, .int .i64 xv, .string xd] 41) = wz at *
                obtain ⟨gz, hgz⟩ : ∃ gz, w9.heap.size = gz := ⟨_, rfl⟩
                rw [hgz] at HRW ⊢
                have HR5 := Lib.hid (own_all HR4.out hHeld)
                have HL5 := Lib.hid (own_all HL4.out hHeld)
                have HB5 := Lib.hid (HB4.out.trans (hHeld.mono HB4.out.size))
                clear hw1 hHeld HR4 HL4 HB4 HB9 HQ HPC HQ6 CC hgz hlt6
                by_cases hC : CEr = 0
                · subst hC
                  have HJ1 := Lib.hid (jErr_go HJ.out HJE.out)
                  have HJS : Hid (jS ll ps k = encS [⟨xs, xv, xd⟩]) := Lib.hid (by unfold jS; rw [HX.out])
                  have hbz : Below wz.heap.size wz (wz.alloc (.cells #[.string xs, .int .i64 xv, .string xd] 41)) := (Below.refl _ _).alloc (Nat.le_refl _) _
                  have HBZ := Lib.hid hbz
                  have CE2 := Lib.hid (encode_any (some ⟨wz.heap.size, 0, none⟩) 1 [⟨xs, xv, xd⟩] _ (oneAt (RowAt.new wz 41 #[.string xs, .int .i64 xv, .string xd]) (by simp)) (fun _ x hx => by
                    rw [List.mem_singleton.1 hx]
                    show xs.size ≤ _
                    omega))
                  have hz1 := encS_size [⟨xs, xv, xd⟩]
                  have hz2 := encS_size (jG ll (k - 1))
                  generalize encS [⟨xs, xv, xd⟩] = X2 at *
                  generalize checkL [⟨xs, xv, xd⟩] = E2 at *
                  have q := HRW.out.cell
                  clear hbz
                  go_wp2_with fail
                  refine CE2.out.mono ?_
                  rintro e w7 ⟨rfl, hb7⟩
                  have HB67 := HBZ.out.trans (hb7.mono HBZ.out.size)
                  have HR7 := Lib.hid (own_all HR5.out HB67)
                  have HL7 := Lib.hid (own_all HL5.out HB67)
                  have HB7 := Lib.hid (HB5.out.trans (HB67.mono HB5.out.size))
                  clear q HRW HBZ CE2 hb7 HB67 HR5 HL5 HB5
                  have qk : w7.cell? ⟨g, k - 1, none⟩ = some (.string (encS (jG ll (k - 1)))) := by
                    rw [HR7.out.cellAt (k - 1) (by omega)]
                    refine strV_get ?_
                    rw [List.append_assoc, List.getElem?_append_left (by rw [jnK_length]; omega), jnK_last hkp]
                  have fk := HR7.out.frozenAt (k - 1)
                  obtain ⟨hown8, hg8⟩ := HR7.out.stored (k - 1) (.string (encS (jG ll (k - 1)) ++ X2))
                  rw [row_set2 (by rw [List.length_append, jnK_length, List.length_singleton]; omega), set_at (jnK_length k) (by omega)] at hown8
                  have HR8 : Hid ((w7.setCell ⟨g, k - 1, none⟩ (.string (encS (jG ll (k - 1)) ++ X2))).ownsRow w.heap.size 9 1 (.slice (some ⟨g, 0, none⟩) n n) n (strV (jnK ll ps (k + 1) ++ List.replicate (n - (k + 1)) ⟨#[]⟩))) := Lib.hid (by
                    rw [jnK_succ hkp, HJS.out, HJG.out, HSS.out]
                    exact hown8)
                  have HL8 := Lib.hid (own_grown HL7.out hg8 (own_ne HL7.out HR7.out (by decide)))
                  have HB8 := Lib.hid (HB7.out.setCell (p := ⟨g, k - 1, none⟩) hgb (.string (encS (jG ll (k - 1)) ++ X2)))
                  clear hown8 hg8 HR7 HL7 HB7
                  generalize encS (jG ll (k - 1)) = Y at *
                  go_wp2_with fail
                  exact ⟨⟨k + 1, by omega, by simp, HJ1, HR8.out, HL8.out, HB8.out⟩, by simp [intOf]; omega⟩
                · have hCB : (CEr != 0) = true := by simpa using hC
                  have HEJ := Lib.hid (joinE_at (by rw [HN.out]; exact hlt) (by rw [HM.out, HN.out]; exact hmn) HJ.out HJE.out hC)
                  go_wp2_with fail
                  go_ret2
                  exact JoinRes.no HEJ.out hC HB5.out
              · skip
                go_simp
                refine hK.out _ _ (hHeld.alloc hHeld.size _) (fun hHeld1 => ?_)
                clear hK K
                (try simp only [Act.put, List.setIfInBounds_toArray, List.set_cons_zero, List.set_cons_succ])
                have HBD := Lib.hid hHeld
                clear hHeld; have hHeld := hHeld1; clear hHeld1
                refine wpAnyH_ready (rs := [9]) (by kernel_rfl) (by simp) ?_
                refine AllReadyH.cons rfl (fun K hK => ?_) AllReadyH.nil
                go_simp
                go_wp2_with (((with_reducible refine (CC.out _).mono ?_); rintro e w9 ⟨rfl, hb9⟩))
                refine hK.out _ _ (hHeld.trans (hb9.mono hHeld.size)) (fun hHeld1 => ?_)
                clear hK K
                (try simp only [Act.put, List.setIfInBounds_toArray, List.set_cons_zero, List.set_cons_succ])
                have hr9 := (RowAt.new wd 41 #[.string ⟨#[]⟩, .int .i64 0, .string ⟨#[]⟩]).below hb9 (by simp)
                have q := hr9.cell
                have f := hr9.frozen
                have HR9 := Lib.hid hr9
                have HB9 := Lib.hid hHeld1
                clear hb9 hr9
                clear hHeld; have hHeld := hHeld1; clear hHeld1
                refine wpAnyH_take (i := 10) (oi := ?o14) (v := ?v14) ?hi14 (by kernel_rfl) (by kernel_rfl) (by kernel_rfl) ?hq14 ?hy14 (by assumption) ?hr14
                case hi14 => (simp only [List.getElem?_toArray, List.getElem?_cons_succ, List.getElem?_cons_zero]; rfl)
                case hy14 => ((refine .inl ⟨by rfl, ?_⟩); intro w hS; go_simp; (try with_reducible rfl))
                case hq14 => exact fun _ _ _ h => h
                (simp only [Act.put, List.setIfInBounds_toArray, List.set_cons_zero, List.set_cons_succ])
                refine wpAnyH_take (i := 11) (oi := ?o15) (v := ?v15) ?hi15 (by kernel_rfl) (by kernel_rfl) (by kernel_rfl) ?hq15 ?hy15 (by assumption) ?hr15
                case hi15 => (simp only [List.getElem?_toArray, List.getElem?_cons_succ, List.getElem?_cons_zero]; rfl)
                case hy15 => ((refine .inl ⟨by rfl, ?_⟩); intro w hS; go_simp; (try with_reducible rfl))
                case hq15 => exact fun _ _ _ h => h
                (simp only [Act.put, List.setIfInBounds_toArray, List.set_cons_zero, List.set_cons_succ])
                refine wpAnyH_take (i := 12) (oi := ?o16) (v := ?v16) ?hi16 (by kernel_rfl) (by kernel_rfl) (by kernel_rfl) ?hq16 ?hy16 (by assumption) ?hr16
                case hi16 => (simp only [List.getElem?_toArray, List.getElem?_cons_succ, List.getElem?_cons_zero]; rfl)
                case hy16 => ((refine .inl ⟨by rfl, ?_⟩); intro w hS; go_simp; (try with_reducible rfl))
                case hq16 => exact fun _ _ _ h => h
                (simp only [Act.put, List.setIfInBounds_toArray, List.set_cons_zero, List.set_cons_succ])
                refine wpAnyH_ready (rs := [14]) (by kernel_rfl) (by simp) ?_
                refine AllReadyH.cons rfl (fun K hK => ?_) AllReadyH.nil
                go_simp
                refine hK.out _ _ (((HB9.out.setCell (p := ⟨wd.heap.size, 0, none⟩) HBD.out.size _).setCell (p := ⟨wd.heap.size, 1, none⟩) HBD.out.size _).setCell (p := ⟨wd.heap.size, 2, none⟩) HBD.out.size _) (fun hHeld1 => ?_)
                clear hK K
                (try simp only [Act.put, List.setIfInBounds_toArray, List.set_cons_zero, List.set_cons_succ])
                clear hHeld; have hHeld := hHeld1; clear hHeld1
                refine wpAnyH_take (i := 15) (oi := ?o17) (v := ?v17) ?hi17 (by kernel_rfl) (by kernel_rfl) (by kernel_rfl) ?hq17 ?hy17 (by assumption) ?hr17
                case hi17 => (simp only [List.getElem?_toArray, List.getElem?_cons_succ, List.getElem?_cons_zero]; rfl)
                case hy17 => ((refine .inl ⟨by rfl, ?_⟩); intro w hS; go_simp; (try with_reducible rfl))
                case hq17 => exact fun _ _ _ h => h
                (simp only [Act.put, List.setIfInBounds_toArray, List.set_cons_zero, List.set_cons_succ])
                refine wpAnyH_done (by kernel_rfl) ?_ _
                have HRW := Lib.hid (((HR9.out.set_ 0 (.string xs)).set_ 1 (.int .i64 xv)).set_ 2 (.string xd))
                clear q f
                generalize ((w9.setCell ⟨wd.heap.size, 0, none⟩ (.string xs)).setCell ⟨wd.heap.size, 1, none⟩ (.int .i64 xv)).setCell ⟨wd.heap.size, 2, none⟩ (.string xd) = wz at *
                obtain ⟨gz, hgz⟩ : ∃ gz, wd.heap.size = gz := ⟨_, rfl⟩
                rw [hgz] at HRW ⊢
                have HR5 := Lib.hid (own_all HR4.out hHeld)
                have HL5 := Lib.hid (own_all HL4.out hHeld)
                have HB5 := Lib.hid (HB4.out.trans (hHeld.mono HB4.out.size))
                clear hw1 hHeld HR4 HL4 HB4 HB9 HQ HPC HQ6 CC hgz hlt6
                by_cases hC : CEr = 0
                · subst hC
                  have HJ1 := Lib.hid (jErr_go HJ.out HJE.out)
                  have HJS : Hid (jS ll ps k = encS [⟨xs, xv, xd⟩]) := Lib.hid (by unfold jS; rw [HX.out])
                  have hbz : Below wz.heap.size wz (wz.alloc (.cells #[.string xs, .int .i64 xv, .string xd] 41)) := (Below.refl _ _).alloc (Nat.le_refl _) _
                  have HBZ := Lib.hid hbz
                  have CE2 := Lib.hid (encode_any (some ⟨wz.heap.size, 0, none⟩) 1 [⟨xs, xv, xd⟩] _ (oneAt (RowAt.new wz 41 #[.string xs, .int .i64 xv, .string xd]) (by simp)) (fun _ x hx => by
                    rw [List.mem_singleton.1 hx]
                    show xs.size ≤ _
                    omega))
                  have hz1 := encS_size [⟨xs, xv, xd⟩]
                  have hz2 := encS_size (jG ll (k - 1))
                  generalize encS [⟨xs, xv, xd⟩] = X2 at *
                  generalize checkL [⟨xs, xv, xd⟩] = E2 at *
                  have q := HRW.out.cell
                  clear hbz
                  go_wp2_with fail
                  refine CE2.out.mono ?_
                  rintro e w7 ⟨rfl, hb7⟩
                  have HB67 := HBZ.out.trans (hb7.mono HBZ.out.size)
                  have HR7 := Lib.hid (own_all HR5.out HB67)
                  have HL7 := Lib.hid (own_all HL5.out HB67)
                  have HB7 := Lib.hid (HB5.out.trans (HB67.mono HB5.out.size))
                  clear q HRW HBZ CE2 hb7 HB67 HR5 HL5 HB5
                  have qk : w7.cell? ⟨g, k - 1, none⟩ = some (.string (encS (jG ll (k - 1)))) := by
                    rw [HR7.out.cellAt (k - 1) (by omega)]
                    refine strV_get ?_
                    rw [List.append_assoc, List.getElem?_append_left (by rw [jnK_length]; omega), jnK_last hkp]
                  have fk := HR7.out.frozenAt (k - 1)
                  obtain ⟨hown8, hg8⟩ := HR7.out.stored (k - 1) (.string (encS (jG ll (k - 1)) ++ X2))
                  rw [row_set2 (by rw [List.length_append, jnK_length, List.length_singleton]; omega), set_at (jnK_length k) (by omega)] at hown8
                  have HR8 : Hid ((w7.setCell ⟨g, k - 1, none⟩ (.string (encS (jG ll (k - 1)) ++ X2))).ownsRow w.heap.size 9 1 (.slice (some ⟨g, 0, none⟩) n n) n (strV (jnK ll ps (k + 1) ++ List.replicate (n - (k + 1)) ⟨#[]⟩))) := Lib.hid (by
                    rw [jnK_succ hkp, HJS.out, HJG.out, HSS.out]
                    exact hown8)
                  have HL8 := Lib.hid (own_grown HL7.out hg8 (own_ne HL7.out HR7.out (by decide)))
                  have HB8 := Lib.hid (HB7.out.setCell (p := ⟨g, k - 1, none⟩) hgb (.string (encS (jG ll (k - 1)) ++ X2)))
                  clear hown8 hg8 HR7 HL7 HB7
                  generalize encS (jG ll (k - 1)) = Y at *
                  go_wp2_with fail
                  exact ⟨⟨k + 1, by omega, by simp, HJ1, HR8.out, HL8.out, HB8.out⟩, by simp [intOf]; omega⟩
                · have hCB : (CEr != 0) = true := by simpa using hC
                  have HEJ := Lib.hid (joinE_at (by rw [HN.out]; exact hlt) (by rw [HM.out, HN.out]; exact hmn) HJ.out HJE.out hC)
                  go_wp2_with fail
                  go_ret2
                  exact JoinRes.no HEJ.out hC HB5.out
          · have HEJ := Lib.hid (joinE_at (by rw [HN.out]; exact hlt) (by rw [HM.out, HN.out]; exact hmn) HJ.out (show jE ll ps k = E by unfold jE; rw [HJG.out, if_neg (by rw [HE.out]; exact hE0), HE.out]) hE0)
            have hE0B : (E != 0) = true := by simpa using hE0
            go_wp2_with fail
            refine CE.out.mono ?_
            rintro e w3 ⟨rfl, hb3⟩
            have HB3 := Lib.hid (HB.out.trans (hb3.mono hbs))
            clear hb3 CE
            go_wp2_with fail
            go_ret2
            exact JoinRes.no HEJ.out hE0 HB3.out
        · obtain rfl : k = n := by omega
          have hge : ¬ (k : Int) < (k : Int) := by omega
          have HE : Hid (joinE ll ps = 0) := Lib.hid (by unfold joinE; rw [if_neg (by rw [HN.out, HM.out]; omega), HN.out]; exact HJ.out)
          have HRR : Hid (joinR ll ps = jnK ll ps k) := Lib.hid (by unfold joinR; rw [if_pos HE.out, HN.out])
          go_wp2_with fail
          go_ret2
          refine ⟨HB.out, some ⟨g, 0, none⟩, k, ?_, ?_⟩
          · rw [HRR.out, HE.out, jnK_length]; rfl
          · rw [HRR.out]
            have h1 := HR.out
            rw [Nat.sub_self, List.replicate_zero, List.append_nil] at h1
            exact SlAt.of_own' h1 (Nat.le_refl _)
    · have hmnB : ((m : Int) != (n : Int) - 1) = true := by simp; omega
      have h0B : ((n : Int) == 0) = false := by simp; omega
      have HE := Lib.hid (show joinE ll ps = 1 by unfold joinE; rw [if_pos (.inr (by rw [HN.out, HM.out]; exact hmn))])
      go_enter Try.func33, Try.ntmps33
      go_wp2_with fail
      go_ret2
      exact JoinRes.no HE.out (by decide) (Below.refl _ _)
end Go.Proofs.Ytnomodbcpndocaa
