/-
  Chapter 24: Groups of the program. Printed by gen_sun.py.
-/
import Derived.Test.YtnomodbcpndocaaSuM
namespace Go.Proofs.Ytnomodbcpndocaa
open Go.RowKit
set_option linter.unusedVariables false

set_option maxRecDepth 100000 in
set_option maxHeartbeats 8000000 in
theorem groups_any (A : Option Addr) (c : Nat) (L : List Ent) (R : Int) (w : World) (h : EnAt w w.heap.size A L) (hc : L.length ≤ c) (hsg : L.length ≤ 1024 → ∀ x ∈ L, x.sg.size ≤ 140737488351232) :
    Calls Try.prog 18 #[.slice A L.length c, .int .i64 R] w (GrRes L R w) := by
  have HS := Lib.hid h
  have HC := Lib.hid (check_any A c L w h hsg)
  have HZ : Hid (∀ w', EnAt w' w'.heap.size A L → L.length ≤ 9223372036854775807 → (∀ x ∈ L, x.d.size ≤ maxLen) → Calls Try.prog 15 #[.slice A L.length c] w' fun e w2 => e = .returned (.int .i64 (wrap64 (sizeL L : Nat))) ∧ Below w'.heap.size w' w2) := Lib.hid fun w' h hl hd => size_any A c L w' h hl hd
  obtain ⟨n, hn⟩ : ∃ n, L.length = n := ⟨_, rfl⟩
  have HN := Lib.hid hn
  rw [hn] at HC HZ hc ⊢
  obtain ⟨E, hE⟩ : ∃ E, checkL L = E := ⟨_, rfl⟩
  have HE := Lib.hid hE
  rw [hE] at HC
  clear h hn hE hsg
  by_cases h0 : E = 0
  · subst h0
    have hn2 : n ≤ 1024 := by
      have hch := HE.out
      unfold checkL at hch
      split at hch
      · cases hch
      · have := HN.out; omega
    have herr : errL L = 0 := by
      have hch := HE.out
      unfold checkL at hch
      rwa [if_neg (by have := HN.out; omega)] at hch
    have HEA := Lib.hid (errL_each herr)
    have hsz : sizeL L ≤ 262144 := by
      have := sizeL_le HEA.out
      have := HN.out
      omega
    have HZ2 : Hid (∀ w', EnAt w' w'.heap.size A L → Calls Try.prog 15 #[.slice A n c] w' fun e w2 => e = .returned (.int .i64 ((sizeL L : Nat) : Int)) ∧ Below w'.heap.size w' w2) := Lib.hid fun w' h => by
      have := HZ.out w' h (by omega) (fun x hx => by have := (errE_zero.1 (HEA.out x hx)).2.2.2; unfold maxLen; omega)
      rwa [show wrap64 ((sizeL L : Nat) : Int) = ((sizeL L : Nat) : Int) from IntWalk.wrap64_in _ (by omega)] at this
    clear herr HZ
    go_enter Try.func18, Try.ntmps18
    go_wp2_with fail
    refine HC.out.mono ?_
    rintro e w1 ⟨rfl, hb1⟩
    clear HC
    have HB1 := Lib.hid hb1
    clear hb1
    go_wp2_with fail
    go_loopw [18] (fun i wr => ∃ k : Nat, k ≤ n ∧ i = .int .i64 k ∧ Hid ((L.take k).any linkE = false) ∧ Below w.heap.size w wr) (fun i _ => n - (intOf i).toNat)
    case atStart => exact ⟨0, by omega, rfl, Lib.hid rfl, HB1.out⟩
    case round =>
      obtain ⟨k, hk, rfl, hno, hbel⟩ := hrel
      have HB := Lib.hid hbel
      have hbs := hbel.size
      by_cases hlt : k < n
      · obtain ⟨x, hx⟩ : ∃ s, L[k]? = some s := ⟨L[k]'(by rw [HN.out]; exact hlt), List.getElem?_eq_getElem _⟩
        obtain ⟨b, off, hA, hbk⟩ := HS.out.one (by rw [HN.out]; omega)
        subst hA
        obtain ⟨p0, p1, p2⟩ := (HS.out.below hbel).cells rfl hx
        have hltI : (k : Int) < (n : Int) := by omega
        have h0k : (0 : Int) ≤ (k : Int) := by omega
        have HX := Lib.hid hx
        clear hx hbel
        by_cases hce : x.sg = ceS
        · have HG := Lib.hid (show grE L R = 1 by unfold grE; rw [if_pos HE.out, if_pos (any_hit HX.out (by unfold linkE; rw [decide_eq_true hce]; rfl))])
          obtain ⟨sg, v, d⟩ := x
          obtain rfl : sg = ⟨#[67, 69]⟩ := hce
          go_wp2_with fail
          go_ret2
          exact GrRes.no HG.out (by decide) (HB.out.alloc hbs _)
        · have f1 : ¬ x.sg = ⟨#[67, 69]⟩ := hce
          have f1b : (x.sg.toList == [67, 69]) = false := by
            rw [beq_eq_false_iff_ne]
            intro h
            refine f1 (ByteArray.ext (Array.ext' ?_))
            rw [← ByteArray.toList_eq]
            exact h
          by_cases hst : x.sg = stS
          · have HG := Lib.hid (show grE L R = 1 by unfold grE; rw [if_pos HE.out, if_pos (any_hit HX.out (by unfold linkE; rw [decide_eq_true hst, Bool.or_true]))])
            clear f1 f1b hce
            obtain ⟨sg, v, d⟩ := x
            obtain rfl : sg = ⟨#[83, 84]⟩ := hst
            go_wp2_with fail
            go_ret2
            exact GrRes.no HG.out (by decide) (HB.out.alloc hbs _)
          · have f2 : ¬ x.sg = ⟨#[83, 84]⟩ := hst
            have f2b : (x.sg.toList == [83, 84]) = false := by
              rw [beq_eq_false_iff_ne]
              intro h
              refine f2 (ByteArray.ext (Array.ext' ?_))
              rw [← ByteArray.toList_eq]
              exact h
            have hno2 := Lib.hid (any_take_no HX.out hno.out (by unfold linkE; rw [decide_eq_false hce, decide_eq_false hst]; rfl))
            clear hce hst
            go_wp2_with fail
            refine ⟨⟨k + 1, by omega, by simp, hno2, HB.out.alloc hbs _⟩, by simp [intOf]; omega⟩
      · obtain rfl : k = n := by omega
        have hge : ¬ (k : Int) < (k : Int) := by omega
        rw [List.take_of_length_le (Nat.le_of_eq HN.out)] at hno
        have HG1 : Hid (grE L R = if R < 0 ∨ 254 < R then 2 else if R < sizeL L ∧ R < 28 then 12 else if 64 < (grL L R).length then 7 else 0) := Lib.hid (by unfold grE; rw [if_pos HE.out, if_neg (by rw [hno.out]; decide)])
        have HZ3 := Lib.hid (HZ2.out wr ((HS.out.below hbel).mono hbs))
        clear hno hbel
        by_cases hR : R < 0 ∨ 254 < R
        · have HG := Lib.hid (show grE L R = 2 by rw [HG1.out, if_pos hR])
          by_cases hR1 : R < 0
          · clear hR
            go_wp2_with fail
            go_ret2
            exact GrRes.no HG.out (by decide) HB.out
          · have hR2 : 254 < R := by omega
            clear hR
            go_wp2_with fail
            go_ret2
            exact GrRes.no HG.out (by decide) HB.out
        · have hR1 : ¬ R < 0 := by omega
          have hR2 : ¬ 254 < R := by omega
          have hR3 : 0 ≤ R := by omega
          by_cases hfull : R < sizeL L ∧ R < 28
          · have HG := Lib.hid (show grE L R = 12 by rw [HG1.out, if_neg hR, if_pos hfull])
            obtain ⟨hf1, hf2⟩ := hfull
            have HF1 := Lib.hid hf1
            clear hR
            go_wp2_with fail
            refine HZ3.out.mono ?_
            rintro e w2 ⟨rfl, hb2⟩
            have HB2 := Lib.hid (HB.out.trans (hb2.mono hbs))
            clear hb2
            go_wp2_with fail
            go_ret2
            exact GrRes.no HG.out (by decide) HB2.out
          · have HG2 : Hid (grE L R = if 64 < (grL L R).length then 7 else 0) := Lib.hid (by rw [HG1.out, if_neg hR, if_neg hfull])
            have HLo : Hid (∀ w', Below w.heap.size w w' → GrLoop L R w (.slice A k c) (.int .i64 R) (.slice none 0 0) w') := Lib.hid (by
              intro w' hb'
              refine ⟨A, c, L, R, L.length + 1, [], [], by rw [HN.out], rfl, HS.out, by rw [HN.out]; exact hc, Lib.hid HEA.out, ?_, hR3, by omega, ?_, ?_, Lib.hid rfl, World.ownsRow_nil _ _ _ _, RowsE.nil, hb'⟩
              · intro h; omega
              · unfold grM; split <;> omega
              · have := HN.out; unfold grM; rw [List.length_nil]; split <;> omega)
            clear hR HG1
            obtain ⟨wo, hwo⟩ : ∃ wo : World, wo = wr := ⟨_, rfl⟩
            subst hwo
            by_cases hbig0 : R < (sizeL L : Int)
            all_goals
              have h28 : R < (sizeL L : Int) → ¬ R < 28 := fun h h' => hfull ⟨h, h'⟩
              first | have h28b := h28 hbig0 | skip
              clear hfull h28
              go_wp2_with fail
              refine HZ3.out.mono ?_
              rintro e w2 ⟨rfl, hb2⟩
              have HB2 := Lib.hid (HB.out.trans (hb2.mono hbs))
              clear hb2 HZ3 HZ2
              go_wp2_with fail
              go_loopw [0, 1, 9] (fun lv rv o wr => GrLoop L R w lv rv o wr) (fun lv rv o _ => grM (sliceN lv) (intOf rv))
              case atStart => exact HLo.out _ HB2.out
              case round =>
                clear HLo HB2 HB hbs
                obtain ⟨A1, c1, l, r, f, acc, hs, rfl, rfl, hen, hlc, hee, hr28, hr0, hr1, hf, hacc, hgl, hown, hrows, hbel⟩ := hrel
                obtain ⟨Ao, co, hov⟩ := own_slice hown
                subst hov
                have hll : l.length ≤ 1025 := by unfold grM at hacc; split at hacc <;> omega
                have hsz1 : sizeL l ≤ 262144 := by
                  have := sizeL_le hee.out
                  omega
                have CZ : Hid (∀ w' j, Below w.heap.size w w' → j ≤ l.length → Calls Try.prog 15 #[.slice A1 j c1] w' fun e w2 => e = .returned (.int .i64 ((sizeL (l.take j) : Nat) : Int)) ∧ Below w'.heap.size w' w2) := Lib.hid fun w' j hb hj => by
                  have h1 : sizeL (l.take j) ≤ sizeL l := by
                    have := sizeL_append (l.take j) (l.drop j)
                    rw [List.take_append_drop] at this
                    omega
                  have := size_any A1 c1 (l.take j) w' (((hen.below hb).mono hb.size).take j) (by rw [List.length_take]; omega) (fun x hx => by have := (errE_zero.1 (hee.out x (List.mem_of_mem_take hx))).2.2.2; unfold maxLen; omega)
                  rw [List.length_take, Nat.min_eq_left hj] at this
                  rwa [show wrap64 ((sizeL (l.take j) : Nat) : Int) = ((sizeL (l.take j) : Nat) : Int) from IntWalk.wrap64_in _ (by omega)] at this
                have CZ0 : Hid (Calls Try.prog 15 #[.slice A1 l.length c1] wr fun e w2 => e = .returned (.int .i64 ((sizeL l : Nat) : Int)) ∧ Below wr.heap.size wr w2) := Lib.hid (by
                  have := CZ.out wr l.length hbel (Nat.le_refl _)
                  rwa [List.take_of_length_le (Nat.le_refl _)] at this)
                by_cases hbig : r < (sizeL l : Int)
                · obtain ⟨f', hf', g1, g2, g3, g4⟩ := gr_more hee.out (hr28 hbig) hr1 hbig hf hacc
                  obtain ⟨b, off, hA1, hbk⟩ := hen.one (by omega)
                  subst hA1 hf'
                  have HFR := Lib.hid (frontN_lt l (r - 28))
                  have HGL : Hid (grL L R = (acc ++ [l.take (frontN l (r - 28))]) ++ grF f' (l.drop (frontN l (r - 28))) 2048) := Lib.hid (by rw [hgl.out, grF_more (by omega), List.append_assoc]; rfl)
                  have HEN := Lib.hid (hen.drop (frontN l (r - 28)))
                  have HENT := Lib.hid (hen.take (frontN l (r - 28)))
                  have HEE : Hid (∀ x ∈ l.drop (frontN l (r - 28)), errE x = 0) := Lib.hid fun x hx => hee.out x (List.mem_of_mem_drop hx)
                  have HLD : Hid ((l.drop (frontN l (r - 28))).length = l.length - frontN l (r - 28)) := Lib.hid (List.length_drop)
                  have HLT : Hid ((l.take (frontN l (r - 28))).length = frontN l (r - 28)) := Lib.hid (by rw [List.length_take]; omega)
                  have HZD : Hid (sizeL (l.drop (frontN l (r - 28))) ≤ sizeL l) := Lib.hid (by
                    have := sizeL_append (l.take (frontN l (r - 28))) (l.drop (frontN l (r - 28)))
                    rw [List.take_append_drop] at this
                    omega)
                  have H1 := Lib.hid g1
                  have H2 := Lib.hid g2
                  have H3 := Lib.hid g3
                  have hrr := hr28 hbig
                  generalize frontN l (r - 28) = F at *
                  obtain ⟨m, hm⟩ : ∃ m, l.length = m := ⟨_, rfl⟩
                  have HM := Lib.hid hm
                  rw [hm] at CZ CZ0 HFR hlc hll HLD g4 ⊢
                  generalize sizeL l = Z at *
                  have HO := Lib.hid hown
                  have HR := Lib.hid hrows
                  have HB := Lib.hid hbel
                  have hal : acc.length ≤ 1025 := by omega
                  have hFc : (F : Int) ≤ (c1 : Int) := by omega
                  have hFm : (F : Int) ≤ (m : Int) := by omega
                  clear hen hm hown hrows g1 g2 g3 hf hacc hr28 hbel
                  go_wp2_with fail
                  refine CZ0.out.mono ?_
                  rintro e w2 ⟨rfl, hb2⟩
                  have HO2 := Lib.hid (own_all HO.out hb2)
                  have HR2 := Lib.hid (HR.out.all hb2)
                  have HB2 := Lib.hid (HB.out.trans (hb2.mono HB.out.size))
                  clear CZ0 hb2 HO HR HB
                  go_wp2_with fail
                  obtain ⟨wo2, hwo2⟩ : ∃ wo2 : World, wo2 = wr := ⟨_, rfl⟩
                  subst hwo2
                  go_loopw [10] (fun i wr => ∃ k : Nat, k ≤ F ∧ i = .int .i64 k ∧ wr.ownsRow w.heap.size 22 1 (.slice Ao acc.length co) acc.length hs ∧ RowsE wr w.heap.size wr.heap.size hs acc ∧ Below w.heap.size w wr) (fun i _ => m - (intOf i).toNat)
                  case atStart => exact ⟨0, by omega, rfl, HO2.out, HR2.out, HB2.out⟩
                  case round =>
                    clear HO2 HR2 HB2
                    obtain ⟨j, hj, rfl, hown, hrows, hbel⟩ := hrel
                    have HO := Lib.hid hown
                    have HR := Lib.hid hrows
                    have HB := Lib.hid hbel
                    have C := Lib.hid (CZ.out wr (j + 1) hbel (by omega))
                    have HI := Lib.hid (HFR.out j hj)
                    have hjc : (j : Int) + 1 ≤ (c1 : Int) := by omega
                    obtain ⟨S, hS⟩ : ∃ S, sizeL (l.take (j + 1)) = S := ⟨_, rfl⟩
                    rw [hS] at C HI
                    clear hS hown hrows hbel
                    by_cases hle : (S : Int) ≤ r - 28
                    · have hjF := HI.out.2 ⟨by omega, hle⟩
                      go_wp2_with fail
                      refine C.out.mono ?_
                      rintro e w3 ⟨rfl, hb3⟩
                      have E3 := Lib.hid (And.intro (own_all HO.out hb3) (And.intro (HR.out.all hb3) (HB.out.trans (hb3.mono HB.out.size))))
                      clear hb3
                      go_wp2_with fail
                      go_roundw
                      case rel => exact ⟨j + 1, by omega, by go_num, E3.out⟩
                      case measure => simp [intOf]; omega
                    · have hjF : j = F := by
                        rcases Nat.lt_or_eq_of_le hj with h1 | h1
                        · exact absurd (HI.out.1 h1).2 hle
                        · exact h1
                      subst hjF
                      go_wp2_with fail
                      refine C.out.mono ?_
                      rintro e w3 ⟨rfl, hb3⟩
                      have HO3 := Lib.hid (own_all HO.out hb3)
                      have HR3 := Lib.hid (HR.out.all hb3)
                      have HB3 := Lib.hid (HB.out.trans (hb3.mono HB.out.size))
                      clear hb3 HO HR HB C HI
                      go_upto_region 19 with fail
                      obtain ⟨wr, hwr⟩ : ∃ wr : World, wr = w3 := ⟨_, rfl⟩
                      subst hwr
                      have HO := HO3
                      have HR := HR3
                      have HB := HB3
                      clear HO3 HR3 HB3
                      have HSL := Lib.hid (SlAt.below ((HENT.out.below HB.out).mono HB.out.size) ((Below.refl wr.heap.size wr).alloc (Nat.le_refl _) (.cells #[] 41)))
                      have HLIT := Lib.hid (World.ownsRow_lit (base := w.heap.size) (size := 3) (e := 41) wr #[] 0 HB.out.size (by unfold maxLen; omega) rfl)
                      have HBS : Hid (w.heap.size ≤ (wr.alloc (.cells #[] 41)).heap.size) := Lib.hid (Nat.le_trans HB.out.size (by simp))
                      have HFL : Hid ((flat encE (l.take j)).length = j * 3) := Lib.hid (by rw [flat_length encE_length, HLT.out])
                      go_wp2_with (first
                          | (at_builtin; refine wpList_appX (s := .tmp 60) (x := .tmp 63) HLIT.out info_ent Try.underlying22 rfl (by decide) HFL.out HSL.out (encE_one _) (by unfold maxLen; omega) (by omega) HBS.out rfl rfl (by rfl) (by rfl) ?_; intro v3 w3 hown3 hg3 _; rw [Nat.zero_add, List.nil_append] at hown3; obtain ⟨A3, c3, hv3⟩ := own_slice hown3; subst hv3; have hbW : Below wr.heap.size wr w3 := ((Below.refl wr.heap.size wr).alloc (Nat.le_refl _) (.cells #[] 41)).grown hg3 (by simp) (fun k hk => Nat.le_of_eq (Option.some.inj hk)); have HOW := Lib.hid (own_all HO.out hbW); have HBW := Lib.hid hbW; have HI3 := Lib.hid hown3; clear hbW hown3 hg3)
                          | (at_builtin; refine wpList_app1H (s := .tmp 59) (x := .tmp 65) HOW.out rfl info_ents Try.underlying33 rfl (by unfold maxLen; omega) (by omega) (Nat.le_trans HB.out.size HBW.out.size) rfl rfl rfl (by rfl) (by rfl) ?_; intro v4 w4 hown4 hb4 hg4; obtain ⟨A4, c4, hv4⟩ := own_slice hown4; subst hv4))
                      have hst := gr_step (g := l.take j) HLT.out HBW.out HR.out HOW.out HI3.out hown4 hg4 hb4 HB.out
                      refine ⟨⟨some ⟨b, off + j * 3, none⟩, c1 - j, l.drop j, 2048, f', acc ++ [l.take j], _, by rw [HLD.out], rfl, HEN.out, by rw [HLD.out]; omega, HEE, fun _ => by omega, by omega, by omega, H1.out, H2.out, HGL, hst.1, hst.2.1, hst.2.2⟩, ?_⟩
                      show grM (m - j) 2048 < grM m r
                      have := H3.out
                      rwa [HLD.out, HM.out] at this
                · have HGL : Hid (grL L R = acc ++ [l]) := Lib.hid (by rw [hgl.out, grF_end (by omega)])
                  obtain ⟨m, hm⟩ : ∃ m, l.length = m := ⟨_, rfl⟩
                  have HM := Lib.hid hm
                  rw [hm] at CZ0 hlc hll ⊢
                  generalize sizeL l = Z at *
                  have HO := Lib.hid hown
                  have HR := Lib.hid hrows
                  have HB := Lib.hid hbel
                  have HEN := Lib.hid hen
                  have hal : acc.length ≤ 1025 := by omega
                  clear hen hm hown hrows hbel hf hacc hr28 hgl CZ
                  go_wp2_with fail
                  refine CZ0.out.mono ?_
                  rintro e w3 ⟨rfl, hb3⟩
                  have HO3 := Lib.hid (own_all HO.out hb3)
                  have HR3 := Lib.hid (HR.out.all hb3)
                  have HB3 := Lib.hid (HB.out.trans (hb3.mono HB.out.size))
                  clear CZ0 hb3 HO HR HB
                  by_cases h64 : 64 ≤ acc.length
                  · have h64I : (64 : Int) ≤ (acc.length : Int) := by omega
                    have HG := Lib.hid (show grE L R = 7 by rw [HG2.out, HGL.out, if_pos (by rw [List.length_append, List.length_singleton]; omega)])
                    go_wp2_with fail
                    go_ret2
                    exact GrRes.no HG.out (by decide) HB3.out
                  · have h64I : ¬ (64 : Int) ≤ (acc.length : Int) := by omega
                    have HG := Lib.hid (show grE L R = 0 by rw [HG2.out, HGL.out, if_neg (by rw [List.length_append, List.length_singleton]; omega)])
                    have HGR : Hid (grR L R = acc ++ [l]) := Lib.hid (by unfold grR; rw [if_pos HG.out, HGL.out])
                    go_upto_region 23 with fail
                    clear wr
                    obtain ⟨wr, hwr⟩ : ∃ wr : World, wr = w3 := ⟨_, rfl⟩
                    subst hwr
                    have HO := HO3
                    have HR := HR3
                    have HB := HB3
                    clear HO3 HR3 HB3
                    have HSL := Lib.hid (SlAt.below ((HEN.out.below HB.out).mono HB.out.size) ((Below.refl wr.heap.size wr).alloc (Nat.le_refl _) (.cells #[] 41)))
                    have HLIT := Lib.hid (World.ownsRow_lit (base := w.heap.size) (size := 3) (e := 41) wr #[] 0 HB.out.size (by unfold maxLen; omega) rfl)
                    have HBS : Hid (w.heap.size ≤ (wr.alloc (.cells #[] 41)).heap.size) := Lib.hid (Nat.le_trans HB.out.size (by simp))
                    have HFL : Hid ((flat encE l).length = m * 3) := Lib.hid (by rw [flat_length encE_length, HM.out])
                    go_wp2_with (first
                        | (at_builtin; refine wpList_appX (s := .tmp 74) (x := .tmp 75) HLIT.out info_ent Try.underlying22 rfl (by decide) HFL.out HSL.out (encE_one _) (by unfold maxLen; omega) (by omega) HBS.out rfl rfl (by rfl) (by rfl) ?_; intro v3 w3 hown3 hg3 _; rw [Nat.zero_add, List.nil_append] at hown3; obtain ⟨A3, c3, hv3⟩ := own_slice hown3; subst hv3; have hbW : Below wr.heap.size wr w3 := ((Below.refl wr.heap.size wr).alloc (Nat.le_refl _) (.cells #[] 41)).grown hg3 (by simp) (fun k hk => Nat.le_of_eq (Option.some.inj hk)); have HOW := Lib.hid (own_all HO.out hbW); have HBW := Lib.hid hbW; have HI3 := Lib.hid hown3; clear hbW hown3 hg3)
                        | (at_builtin; refine wpList_app1H (s := .tmp 73) (x := .tmp 77) HOW.out rfl info_ents Try.underlying33 rfl (by unfold maxLen; omega) (by omega) (Nat.le_trans HB.out.size HBW.out.size) rfl rfl rfl (by rfl) (by rfl) ?_; intro v4 w4 hown4 hb4 hg4; obtain ⟨A4, c4, hv4⟩ := own_slice hown4; subst hv4))
                    go_ret2
                    have hst := gr_step (g := l) HM.out HBW.out HR.out HOW.out HI3.out hown4 hg4 hb4 HB.out
                    refine ⟨hst.2.2, A4, c4, _, ?_, ?_, SlAt.of_own' hown4 (Nat.le_refl _), ?_⟩
                    · rw [HGR.out, HG.out, List.length_append, List.length_singleton]; rfl
                    · rw [HGR.out, List.length_append, List.length_singleton]; exact own_cap hown4
                    · rw [HGR.out]; exact hst.2.1.gr
  · go_enter Try.func18, Try.ntmps18
    go_wp2_with fail
    refine HC.out.mono ?_
    rintro e w1 ⟨rfl, hb1⟩
    clear HC
    have HG := Lib.hid (show grE L R = E by unfold grE; rw [if_neg (by rw [HE.out]; exact h0), HE.out])
    have HB1 := Lib.hid hb1
    clear hb1
    go_wp2_with fail
    go_ret2
    exact GrRes.no HG.out h0 HB1.out
end Go.Proofs.Ytnomodbcpndocaa
