/-
  The walk of the law SuspSplits, first part: the places.
-/
import Derived.Test.YtnomodbcpndocaaLawA
import Derived.Test.YtnomodbcpndocaaSpA
import Derived.Test.YtnomodbcpndocaaSuN
import Derived.Test.YtnomodbcpndocaaSuT
import Derived.Test.YtnomodbcpndocaaSuO
import Derived.Test.YtnomodbcpndocaaSt
import Derived.Test.YtnomodbcpndocaaArgs
import Derived.Test.YtnomodbcpndocaaHeld
import Derived.BigQuiet
import Derived.Deep.Cut
import Derived.Deep.CutRange
namespace Go.Proofs.Ytnomodbcpndocaa
open Go.RowKit
set_option linter.unusedVariables false

theorem mem_fl {g : List Ent} : ∀ {ll : List (List Ent)}, g ∈ ll → g.length ≤ ll.flatten.length ∧ ∀ x ∈ g, x ∈ ll.flatten
  | [], h => by cases h
  | a :: r, h => by
    rcases List.mem_cons.1 h with rfl | h
    · exact ⟨by simp, fun x hx => by simp [hx]⟩
    · obtain ⟨h1, h2⟩ := mem_fl (ll := r) h
      refine ⟨by simp; simp at h1; omega, fun x hx => ?_⟩
      rw [List.flatten_cons]
      exact List.mem_append_right _ (h2 x hx)
theorem info_plc : (Try.prog.info? 53).map (fun i => (i.zero, i.size, i.bytes)) = some (some (.agg #[.int .i64 0, .int .i64 0]), 2, 16) := by kernel_rfl
set_option maxRecDepth 100000 in
set_option maxHeartbeats 4000000 in
theorem splits_law (A : Option Addr) (len cap : Nat) (l : List Ent) (R : Int) (Ao : Option Addr) (lo co : Nat) (zs : List Int) (lost : Int) (w : World) (h : IsL encE EntG w A len cap l) (hR : (Lit.int .i64 R).wf = true) (ho : IsRow .i64 w Ao lo co zs) (hlost : (Lit.int .u8 lost).wf = true) :
    Calls Try.prog 6 #[.slice A len cap, .int .i64 R, .slice Ao lo co, .int .u8 lost] w fun e w' => e = .returned (.bool true) ∧ Below w.heap.size w w' := by
  obtain ⟨h1, h2, h3, h4, h5⟩ := h
  subst h1
  unfold maxLen at h3
  have HE : Hid (EnAt w w.heap.size A l) := Lib.hid h4
  have HG := Lib.hid h5
  have HS := Lib.hid (fun w' (hb : Below w.heap.size w w') => small_any A cap l 80 w' ((h4.below hb).mono hb.size) (by omega))
  clear h4 h5
  cases hsm : smallB l 80 with
  | false =>
    rw [hsm] at HS
    clear hsm ho
    go_enter Try.func6, Try.ntmps6
    go_wp2_with fail
    refine (awake_any _).mono ?_
    rintro e w0 ⟨rfl, hb0⟩
    have C := Lib.hid (HS.out w0 hb0)
    have HB := Lib.hid hb0
    clear hb0 HS
    go_wp2_with fail
    refine C.out.mono ?_
    rintro e _ ⟨rfl, rfl⟩
    go_wp2_with fail
    go_ret
    exact ⟨rfl, HB.out⟩
  | true =>
    rw [hsm] at HS
    obtain ⟨hl, hx⟩ := smallB_len hsm
    have CG := Lib.hid (fun w' (hb : Below w.heap.size w w') => groups_any A cap l R w' ((HE.out.below hb).mono hb.size) (by omega) (fun _ x hx' => by have := hx x hx'; omega))
    unfold GrRes at CG
    by_cases hge : grE l R = 0
    · obtain ⟨e1, e2, e3, e4, e5, e6, e7, e8⟩ := gr_ok hge
      rw [hge, e1] at CG
      obtain ⟨os, hos, hoM, HO0, hoB⟩ := ho.out
      have HO := Lib.hid HO0
      have HOB := Lib.hid hoB
      have hz : ∀ g ∈ grL l R, sizeL g ≤ 1000000 := fun g hg => by
        obtain ⟨m1, m2⟩ := mem_fl hg
        rw [e2] at m1 m2
        have := sizeL_le (l := g) fun x hx => (e5 x (m2 x hx)).1
        omega
      have HJZ := Lib.hid (jL_zero (B := 300000) e3 (fun g hg => by
        obtain ⟨m1, m2⟩ := mem_fl hg
        rw [e2] at m1 m2
        have := sizeL_le (l := g) fun x hx => (e5 x (m2 x hx)).1
        omega))
      have hx0 : ∃ x0, (lenL (grL l R))[0]? = some x0 ∧ x0 ≤ R := by
        have hlt : 0 < (lenL (grL l R)).length := by rw [lenL_length]; omega
        exact ⟨_, List.getElem?_eq_getElem hlt, e7 _ (List.getElem?_eq_getElem hlt)⟩
      have hxk := Lib.hid e8
      clear hge e1 hsm hx HO0 hoB ho
      obtain ⟨x0, hx0, hx0R⟩ := hx0
      have hrl : ∀ g ∈ grL l R, sizeL g ≤ 1000000000 := fun g hg => by have := hz g hg; omega
      have HX0 := Lib.hid hx0
      have hL := Lib.hid (lenL_length (grL l R))
      have CL := Lib.hid (fun A c hs w h hG => lengths_any A c hs (grL l R) w h hG (by omega) hrl)
      have CJ := Lib.hid (fun A Ap c cp hs ps w h hG hP hpl hpg => join_any A Ap c cp hs (grL l R) ps w h hG hP (by omega) hpl hz (fun g hg x hx => by obtain ⟨_, m2⟩ := mem_fl hg; rw [e2] at m2; have := (errE_zero.1 (e5 x (m2 x hx)).1).1; have := sig_two this; obtain ⟨_, _, hd, _⟩ := this; rw [size_data, hd]; show 2 ≤ 140737488351232; omega) hpg)
      unfold LenRes at CL
      generalize grL l R = ll at *
      obtain ⟨n, hn⟩ : ∃ n, ll.length = n := ⟨_, rfl⟩
      have HN := Lib.hid hn
      rw [hn] at CG CL CJ e3 e4 hL
      have HE2 := Lib.hid e2
      have HE5 := Lib.hid e5
      clear hn e2 e5 e7 e8 hx0 hz hrl
      obtain ⟨ln, hln⟩ : ∃ m, l.length = m := ⟨_, rfl⟩
      have HLN := Lib.hid hln
      rw [hln] at HS CG h2 hl e6 ⊢
      clear hln
      have hn0I : ¬ (n : Int) = 0 := by omega
      have hx0I : ¬ R < x0 := by omega
      go_enter Try.func6, Try.ntmps6
      go_wp2_with fail
      refine (awake_any _).mono ?_
      rintro e w0 ⟨rfl, hb0⟩
      have C := Lib.hid (HS.out w0 hb0)
      have C1 := Lib.hid (CG.out w0 hb0)
      have HB := Lib.hid hb0
      clear hb0 HS CG
      go_wp2_with fail
      refine C.out.mono ?_
      rintro e _ ⟨rfl, rfl⟩
      go_wp2_with fail
      refine C1.out.mono ?_
      rintro e w1 ⟨hb1, A1, c1, hs1, rfl, hc1, hsl1, hgr1⟩
      have HB1 := Lib.hid (HB.out.trans (hb1.mono HB.out.size))
      have HSL1 := Lib.hid hsl1
      have HGR1 := Lib.hid hgr1
      have C2 := Lib.hid (CL.out A1 c1 hs1 w1 hsl1 hgr1)
      clear hb1 HB C1 C hsl1 hgr1 CL
      go_wp2_with fail
      refine C2.out.mono ?_
      rintro e w2 ⟨hb2, A2, c2, rfl, hc2, ho2⟩
      have HB2 := Lib.hid (HB1.out.trans (hb2.mono HB1.out.size))
      have HSL2 := Lib.hid ((SlAt.below HSL1.out hb2).mono hb2.size)
      have HGR2 := Lib.hid ((HGR1.out.below hb2).mono hb2.size)
      have HL2 : Hid (SlAt w2 w2.heap.size A2 (intV (lenL ll))) := Lib.hid (SlAt.of_own' ho2 (Nat.le_refl _))
      clear hb2 ho2 C2 HB1 HSL1 HGR1
      obtain ⟨b2, o2, hA2, hbk2⟩ := HL2.out.intAddr (by rw [hL.out]; omega)
      subst hA2
      have g0 := HL2.out.int rfl HX0.out
      rw [Nat.add_zero] at g0
      have hcI : 0 < n := by omega
      have hn0 : ¬ n = 0 := by omega
      have hbq : ((n : Int) == 0) = false := by rw [beq_eq_false_iff_ne]; omega
      have hn1I : (1 : Int) ≤ (n : Int) := by omega
      go_upto_region 12 with fail
      go_cut [59, 60, 61] from 58 to 61 (fun s m i wx => ∃ o3, s = .slice (some ⟨b2, o3, none⟩) (n - 1) (c2 - 1) ∧ m = .int .i64 ((n - 1 : Nat) : Int) ∧ i = .int .i64 0 ∧ w2 = wx ∧ Hid (SlAt w2 w2.heap.size (some ⟨b2, o3, none⟩) (intV ((lenL ll).drop 1))))
      case first =>
        by_cases hc1 : c2 = 1
        · subst hc1
          have hn1 : n = 1 := by omega
          go_wp2_with fail
          all_goals go_meet
          all_goals exact ⟨o2, by subst hn1; rfl, by subst hn1; rfl, rfl, rfl, Lib.hid (by rw [List.drop_eq_nil_of_le (by rw [hL.out]; omega)]; exact SlAt.nil _ _ _)⟩
        · go_wp2_with fail
          all_goals go_meet
          all_goals exact ⟨_, rfl, rfl, rfl, rfl, Lib.hid (fun j u hu => by
            rw [intV, List.map_drop, List.getElem?_drop] at hu
            obtain ⟨b', off', e, hb, hc⟩ := HL2.out _ u hu
            injection e with e
            injection e with e1 e2 _
            subst e1 e2
            exact ⟨_, _, rfl, hb, by rw [Nat.add_assoc]; exact hc⟩)⟩
      case rest =>
        obtain ⟨o3, rfl, rfl, rfl, rfl, HD⟩ := hcut
        obtain ⟨m, hm⟩ : ∃ m, n - 1 = m := ⟨_, rfl⟩
        have hmn : m + 1 = n := by omega
        rw [hm]
        clear hm g0 hbq hn0 hx0I
        go_wp2_with fail
        go_loopw [12, 61] (fun o i wr => ∃ k : Nat, k ≤ m ∧ i = .int .i64 k ∧ wr.ownsRow w2.heap.size 53 2 o k (flat encP (plsO ll os k)) ∧ Below w2.heap.size w2 wr) (fun _ i _ => m - (intOf i).toNat)
        case atStart => exact ⟨0, by omega, rfl, World.ownsRow_nil _ _ _ _, Below.refl _ _⟩
        case round =>
          obtain ⟨k, hk, rfl, hown, hbel⟩ := hrel
          obtain ⟨Ap, cp, rfl⟩ := own_slice hown
          by_cases hlt : k < m
          · have hltI : (k : Int) < (m : Int) := by omega
            have h0k : (0 : Int) ≤ (k : Int) := by omega
            obtain ⟨z, hz⟩ : ∃ z, (lenL ll)[k + 1]? = some z := ⟨_, List.getElem?_eq_getElem (by rw [hL.out]; omega)⟩
            obtain ⟨hz1, hz2⟩ := hxk.out k z hz
            have p0 := (HD.out.below hbel).int rfl (show ((lenL ll).drop 1)[k]? = some z by rw [List.getElem?_drop, Nat.add_comm]; exact hz)
            have hzj : jL ll (k + 1) = z := by unfold jL; rw [hz]; rfl
            have f1 : ¬ z < 1 := by omega
            have f2 : ¬ 2048 < z := by omega
            have HB := Lib.hid hbel
            have HW := Lib.hid hown
            have HPS : Hid (flat encP (plsO ll os (k + 1)) = flat encP (plsO ll os k) ++ encP (plO ll os k)) := Lib.hid (by rw [plsO_succ]; simp [flat])
            have HPO : Hid (plO ll os k = ⟨3 + (k : Int), if 0 ≤ os[k]?.getD (-1) ∧ os[k]?.getD (-1) ≤ 2048 - z then os[k]?.getD (-1) else 0⟩) := Lib.hid (by unfold plO; rw [hzj])
            clear hbel hown hz hzj
            by_cases hko : k < lo
            · have hkoI : (k : Int) < (lo : Int) := by omega
              obtain ⟨y, hy⟩ : ∃ y, os[k]? = some y := ⟨_, List.getElem?_eq_getElem (by omega)⟩
              have HBW := Lib.hid (HB2.out.trans (HB.out.mono HB2.out.size))
              obtain ⟨bo, oo, hAo, hbo⟩ := SlAt.intAddr (l := os) HO.out (by omega)
              subst hAo
              have p1 := SlAt.int (l := os) (SlAt.below HO.out HBW.out) rfl hy
              rw [hy, Option.getD_some] at HPO
              have hbw : bo < wr.heap.size := by have := HBW.out.size; omega
              by_cases hy0 : 0 ≤ y
              · by_cases hy1 : y ≤ 2048 - z
                · have HP1 : Hid (encP (plO ll os k) = [.int .i64 (3 + (k : Int)), .int .i64 y]) := Lib.hid (by rw [HPO.out, if_pos ⟨hy0, hy1⟩]; rfl)
                  have HBN := Lib.hid (HB.out.alloc HB.out.size (.cells #[.int .i64 (3 + (k : Int)), .int .i64 y] 53))
                  have HON := Lib.hid (own_all HW.out ((Below.refl wr.heap.size wr).alloc (Nat.le_refl _) (.cells #[.int .i64 (3 + (k : Int)), .int .i64 y] 53)))
                  clear HPO HB
                  go_wp2_with (at_builtin; refine wpList_appNH (H := wr.heap.size + 1) (us := [.int .i64 (3 + (k : Int)), .int .i64 y]) HON.out (by simp) info_plc Try.underlying51 rfl (by decide) rfl (by unfold maxLen; omega) (by omega) HBN.out.size (by intro u hu; simp at hu; rcases hu with rfl | rfl <;> rfl) rfl rfl (by rfl) (by rfl) ?_; intro v5 w6 hown6 hb6 hg6; rw [← HP1.out, ← HPS.out] at hown6)
                  go_roundw
                  case rel => exact ⟨k + 1, by omega, by go_num, hown6, HBN.out.trans hb6⟩
                  case measure => simp [intOf]; omega
                · have HP1 : Hid (encP (plO ll os k) = [.int .i64 (3 + (k : Int)), .int .i64 0]) := Lib.hid (by rw [HPO.out, if_neg (fun h => hy1 h.2)]; rfl)
                  have HBN := Lib.hid (HB.out.alloc HB.out.size (.cells #[.int .i64 (3 + (k : Int)), .int .i64 0] 53))
                  have HON := Lib.hid (own_all HW.out ((Below.refl wr.heap.size wr).alloc (Nat.le_refl _) (.cells #[.int .i64 (3 + (k : Int)), .int .i64 0] 53)))
                  clear HPO HB
                  go_wp2_with (at_builtin; refine wpList_appNH (H := wr.heap.size + 1) (us := [.int .i64 (3 + (k : Int)), .int .i64 0]) HON.out (by simp) info_plc Try.underlying51 rfl (by decide) rfl (by unfold maxLen; omega) (by omega) HBN.out.size (by intro u hu; simp at hu; rcases hu with rfl | rfl <;> rfl) rfl rfl (by rfl) (by rfl) ?_; intro v5 w6 hown6 hb6 hg6; rw [← HP1.out, ← HPS.out] at hown6)
                  go_roundw
                  case rel => exact ⟨k + 1, by omega, by go_num, hown6, HBN.out.trans hb6⟩
                  case measure => simp [intOf]; omega
              · have HP1 : Hid (encP (plO ll os k) = [.int .i64 (3 + (k : Int)), .int .i64 0]) := Lib.hid (by rw [HPO.out, if_neg (fun h => hy0 h.1)]; rfl)
                have HBN := Lib.hid (HB.out.alloc HB.out.size (.cells #[.int .i64 (3 + (k : Int)), .int .i64 0] 53))
                have HON := Lib.hid (own_all HW.out ((Below.refl wr.heap.size wr).alloc (Nat.le_refl _) (.cells #[.int .i64 (3 + (k : Int)), .int .i64 0] 53)))
                clear HPO HB
                go_wp2_with (at_builtin; refine wpList_appNH (H := wr.heap.size + 1) (us := [.int .i64 (3 + (k : Int)), .int .i64 0]) HON.out (by simp) info_plc Try.underlying51 rfl (by decide) rfl (by unfold maxLen; omega) (by omega) HBN.out.size (by intro u hu; simp at hu; rcases hu with rfl | rfl <;> rfl) rfl rfl (by rfl) (by rfl) ?_; intro v5 w6 hown6 hb6 hg6; rw [← HP1.out, ← HPS.out] at hown6)
                go_roundw
                case rel => exact ⟨k + 1, by omega, by go_num, hown6, HBN.out.trans hb6⟩
                case measure => simp [intOf]; omega
            · have hkoI : ¬ (k : Int) < (lo : Int) := by omega
              have HP1 : Hid (encP (plO ll os k) = [.int .i64 (3 + (k : Int)), .int .i64 0]) := Lib.hid (by rw [HPO.out, List.getElem?_eq_none (by omega), Option.getD_none, if_neg (fun h => absurd h.1 (by decide))]; rfl)
              have HBN := Lib.hid (HB.out.alloc HB.out.size (.cells #[.int .i64 (3 + (k : Int)), .int .i64 0] 53))
              have HON := Lib.hid (own_all HW.out ((Below.refl wr.heap.size wr).alloc (Nat.le_refl _) (.cells #[.int .i64 (3 + (k : Int)), .int .i64 0] 53)))
              clear HPO HB
              go_wp2_with (at_builtin; refine wpList_appNH (H := wr.heap.size + 1) (us := [.int .i64 (3 + (k : Int)), .int .i64 0]) HON.out (by simp) info_plc Try.underlying51 rfl (by decide) rfl (by unfold maxLen; omega) (by omega) HBN.out.size (by intro u hu; simp at hu; rcases hu with rfl | rfl <;> rfl) rfl rfl (by rfl) (by rfl) ?_; intro v5 w6 hown6 hb6 hg6; rw [← HP1.out, ← HPS.out] at hown6)
              go_roundw
              case rel => exact ⟨k + 1, by omega, by go_num, hown6, HBN.out.trans hb6⟩
              case measure => simp [intOf]; omega
          · obtain rfl : k = m := by omega
            have hge2 : ¬ (k : Int) < (k : Int) := by omega
            obtain ⟨s0, s1, s2, s3⟩ := splits_ok os HE2.out HE5.out (by rw [HLN.out]; exact e6) (by rw [HN.out]; exact e3) (by rw [HN.out]; exact e4) hxk.out
            have HZ0 := Lib.hid s0
            have HLK : Hid (ll.length - 1 = k) := Lib.hid (by rw [HN.out]; omega)
            have HS0L : Hid (jErr ll (plsO ll os k) ll.length = 0) := Lib.hid (by rw [← HLK.out]; exact HZ0.out)
            rw [HN.out, ← hmn, Nat.add_sub_cancel] at s0 s1
            have HS0 := Lib.hid s0
            have HS1 := Lib.hid s1
            have HS2 := Lib.hid s2
            have HS3 := Lib.hid s3
            have hpl : (plsO ll os k).length = k := plsO_length k
            have HP3 : Hid (PlAt wr wr.heap.size Ap (plsO ll os k)) := Lib.hid (SlAt.of_own' hown (Nat.le_refl _))
            have C5 := Lib.hid (CJ.out A1 Ap c1 cp hs1 (plsO ll os k) wr ((SlAt.below HSL2.out hbel).mono hbel.size) ((HGR2.out.below hbel).mono hbel.size) HP3.out (by rw [hpl]; omega) (plsO_good (by omega) (fun i hi => HS2.out i (by rw [HN.out]; omega))))
            unfold JoinRes at C5
            rw [s1, hpl] at C5
            have HB5 := Lib.hid (HB2.out.trans (hbel.mono HB2.out.size))
            have HBR := Lib.hid hbel
            have HOW := Lib.hid hown
            clear s0 s1 s2 s3 hpl hown hbel CJ
            go_wp2_with fail
            refine C5.out.mono ?_
            rintro e w5 ⟨hb5, A5, c5, rfl, hs5⟩
            have HRL : Hid ((joinR ll (plsO ll os k)).length = n) := Lib.hid (by
              have h1 : joinE ll (plsO ll os k) = 0 := by
                have := splits_ok os HE2.out HE5.out (by rw [HLN.out]; exact e6) (by rw [HN.out]; exact e3) (by rw [HN.out]; exact e4) hxk.out
                have := this.2.1
                rwa [HN.out, ← hmn, Nat.add_sub_cancel] at this
              unfold joinR
              rw [if_pos h1, jnK_length, HN.out])
            rw [HRL.out]
            have HB6 := Lib.hid (HB5.out.trans (hb5.mono HB5.out.size))
            have HS5 := Lib.hid hs5
            have HP5 : Hid (PlAt w5 w5.heap.size Ap (plsO ll os k)) := Lib.hid ((SlAt.below HP3.out hb5).mono hb5.size)
            have HL5 : Hid (SlAt w5 w5.heap.size (some ⟨b2, o2, none⟩) (intV (lenL ll))) := Lib.hid ((((HL2.out.below HBR.out).below (hb5.mono HBR.out.size))).mono (Nat.le_trans HBR.out.size hb5.size))
            clear hb5 hs5 C5 HB5 HBR HOW HP3 HD HSL2 HGR2 HL2 HO HOB HB2
            go_upto_region 25 with fail
            obtain ⟨i0, hi, hz0, hz1, hz2⟩ := info_parts info_str
            go_wp2_with (at_make; refine wpList_make_full _ rfl _ _ _ rfl w5.heap.size 9 i0 _ 1 Try.underlying56 hi hz0 hz1 _ _ _ _ (3 + k) rfl rfl (by simp) (by simp) (by rw [hz2]; omega) (by unfold maxLen; omega) (Nat.le_refl _) ?_; intro w6 hown6 hg6)
            have hb6 : Below w5.heap.size w5 w6 := (Below.refl _ _).grown hg6 (Nat.le_refl _) (fun k hk => by cases hk)
            have hIM : w6.ownsRow w5.heap.size 9 1 (.slice (some ⟨w5.heap.size, 0, none⟩) (3 + k) (3 + k)) (3 + k) (strV (imgO ll os 0)) := by
              have h2 : (madeCells (Value.string ⟨#[]⟩).cells ((3 + k) * 1)).toList = strV (imgO ll os 0) := by
                rw [made_strs, imgO_zero, HN.out, ← hmn, Nat.add_sub_cancel]
              rw [← h2]
              exact hown6
            have HIM := Lib.hid hIM
            have HB7 := Lib.hid hb6
            obtain ⟨g, hg⟩ : ∃ g, w5.heap.size = g := ⟨_, rfl⟩
            obtain ⟨n3, hn3⟩ : ∃ n3, 3 + k = n3 := ⟨_, rfl⟩
            have HGW := Lib.hid hg
            have HN3 := Lib.hid hn3
            rw [hg] at HIM
            rw [hn3] at HIM
            rw [hg, hn3]
            clear hown6 hg6 hb6 hIM hi hz0 hz1 hz2 hg
            clear hn3
            have hk64 : k ≤ 64 := by omega
            have hn3b : n3 ≤ 1000 := by have := HN3.out; omega
            go_wp2_with fail
            go_loopw [126] (fun i wr => ∃ j : Nat, j ≤ k ∧ i = .int .i64 j ∧ wr.ownsRow g 9 1 (.slice (some ⟨g, 0, none⟩) n3 n3) n3 (strV (imgO ll os j)) ∧ Below w5.heap.size w5 wr) (fun i _ => k - (intOf i).toNat)
            case atStart => exact ⟨0, by omega, rfl, HIM.out, HB7.out⟩
            case round =>
              clear HIM HB7
              obtain ⟨j, hj, rfl, hrow, hbel⟩ := hrel
              by_cases hlt : j < k
              · have HR := Lib.hid hrow
                have HBJ := Lib.hid hbel
                have hbs := hbel.size
                rw [HGW.out] at hbs
                clear hrow hbel
                have hltI : (j : Int) < (k : Int) := by omega
                have h0j : (0 : Int) ≤ (j : Int) := by omega
                obtain ⟨bp, op, hAp, hbp⟩ := HP5.out.one (by rw [plsO_length]; omega)
                subst hAp
                obtain ⟨b5, o5, hA5, hb5⟩ := HS5.out.addr (by unfold strV; rw [List.length_map, HRL.out]; omega)
                subst hA5
                obtain ⟨a, ha⟩ : ∃ a, 3 + j = a := ⟨_, rfl⟩
                have haI : 3 + (j : Int) = (a : Int) := by omega
                have HJ2 := HS2.out j (by rw [HN.out]; omega)
                have ho := plO_off (os := os) HJ2
                obtain ⟨o, hoI⟩ : ∃ o : Nat, (plO ll os j).off = (o : Int) := ⟨(plO ll os j).off.toNat, by omega⟩
                have HPC := (HP5.out.below HBJ.out).cells rfl (plsO_get (ll := ll) (os := os) hlt)
                rw [hoI, show (plO ll os j).lba = (a : Int) from haI] at HPC
                obtain ⟨p0, p1⟩ := HPC
                have hJT := jT_size HS0L.out (show j + 1 < ll.length by rw [HN.out]; omega)
                have HQ5 : Hid (∀ w', Below w5.heap.size w5 w' → w'.cell? ⟨b5, o5 + (j + 1), none⟩ = some (.string (jT ll (plsO ll os k) (j + 1)))) := Lib.hid (fun w' hb => SlAt.str (SlAt.below HS5.out hb) rfl (joinR_get HS1.out (by rw [HN.out]; omega)))
                have HQ6 : Hid (∀ w', Below w5.heap.size w5 w' → w'.cell? ⟨b2, o2 + (j + 1), none⟩ = some (.int .i64 (jL ll (j + 1)))) := Lib.hid (fun w' hb => SlAt.int (SlAt.below HL5.out hb) rfl (jL_get (by rw [HN.out]; omega)))
                have HBK : Hid (blkO ll os j = repS 33 o ++ jT ll (plsO ll os k) (j + 1) ++ repS 63 (2048 - o - (jT ll (plsO ll os k) (j + 1)).size)) := Lib.hid (by
                  unfold blkO
                  rw [hoI, Int.toNat_natCast, HN.out, ← hmn, Nat.add_sub_cancel])
                rw [← hJT] at HQ6 HJ2 ho
                generalize jT ll (plsO ll os k) (j + 1) = T at *
                have hT1 : 1 ≤ T.size := by omega
                have hT2 : o + T.size ≤ 2048 := by omega
                have hj1N : ((j : Int) + 1).toNat = j + 1 := by omega
                have hj1I : (j : Int) + 1 < (n : Int) := by omega
                have hj1Z : (0 : Int) ≤ (j : Int) + 1 := by omega
                have HA := Lib.hid ha
                have HRI := Lib.hid (own_all HR.out ((Below.refl wr.heap.size wr).alloc (Nat.le_refl _) (.cells #[.int .i64 (a : Int), .int .i64 (o : Int)] 53)))
                have hgp : g < wr.heap.size := (HR.out.lt g rfl).2
                have HEM : Hid ((imgO ll os j)[a]? = some ⟨#[]⟩) := Lib.hid (by rw [imgO_at (by rw [HN.out]; omega), if_neg (by omega)])
                have CBG := Lib.hid (fun w => bang_any o w (by omega))
                have CBW := Lib.hid (fun w => what_any (2048 - o - T.size) w (by omega))
                have HBP := Lib.hid (HBJ.out.alloc HBJ.out.size (.cells #[.int .i64 (a : Int), .int .i64 (o : Int)] 53))
                have han : a < n3 := by have := HN3.out; omega
                have ho48 : o ≤ 2048 := by omega
                clear hJT hoI haI ha HR ho HJ2
                go_upto_region 29 with fail
                have q5 := HQ5.out _ HBP.out
                have q6 := HQ6.out _ HBP.out
                have hw1 : IntKind.i64.wrap ((j : Int) + 1) = (j : Int) + 1 := IntWalk.i64_in _ (by omega)
                go_quiet (fail)
                go_upto_region 31 with fail
                obtain ⟨gp, hgp0⟩ : ∃ gp, wr.heap.size = gp := ⟨_, rfl⟩
                have HRP : Hid (RowAt (wr.alloc (.cells #[.int .i64 (a : Int), .int .i64 (o : Int)] 53)) gp 53 #[.int .i64 (a : Int), .int .i64 (o : Int)]) := Lib.hid (by rw [← hgp0]; exact RowAt.new _ _ _)
                have hgpN : gp ≠ g := by omega
                rw [hgp0]
                clear hgp0 hgp q5 q6 p0 p1
                generalize wr.alloc (.cells #[.int .i64 (a : Int), .int .i64 (o : Int)] 53) = wp at *
                have hw2 : IntKind.i64.wrap (2048 - (o : Int)) = 2048 - (o : Int) := IntWalk.i64_in _ (by omega)
                have hw3 : IntKind.i64.wrap (2048 - (o : Int) - (T.size : Int)) = ((2048 - o - T.size : Nat) : Int) := by rw [IntWalk.i64_in _ (by omega)]; omega
                refine wp_region_held_drew (S := (fun w' => Below w5.heap.size w5 w' ∧ RowAt w' gp 53 #[.int .i64 (a : Int), .int .i64 (o : Int)])) (by kernel_rfl) ⟨(below_drewN HBP.out nq).drew, HRP.out⟩ (fun hHeld => ?_)
                have HRI := Lib.hid (show (wp.drewN nq).drew.ownsRow g 9 1 (.slice (some ⟨g, 0, none⟩) n3 n3) n3 (strV (imgO ll os j)) from HRI.out)
                generalize (wp.drewN nq).drew = wd at *
                clear HBP HRP
                refine wpAnyH_take (i := 0) (oi := ?o1) (v := ?v1) ?hi1 (by kernel_rfl) (by kernel_rfl) (by kernel_rfl) ?hq1 ?hy1 (by assumption) ?hr1
                case hi1 => (simp only [List.getElem?_toArray, List.getElem?_cons_zero]; rfl)
                case hy1 => ((refine .inl ⟨by rfl, ?_⟩); intro w hS; go_simp; (try with_reducible rfl))
                case hq1 => exact fun _ _ _ h => h
                (simp only [Act.put, List.setIfInBounds_toArray, List.set_cons_zero, List.set_cons_succ])
                refine wpAnyH_take (i := 1) (oi := ?o2) (v := ?v2) ?hi2 (by kernel_rfl) (by kernel_rfl) (by kernel_rfl) ?hq2 ?hy2 (by assumption) ?hr2
                case hi2 => (simp only [List.getElem?_toArray, List.getElem?_cons_succ, List.getElem?_cons_zero]; rfl)
                case hy2 => ((refine .inl ⟨by rfl, ?_⟩); intro w hS; go_simp; (try with_reducible rfl))
                case hq2 => exact fun _ _ _ h => h
                (simp only [Act.put, List.setIfInBounds_toArray, List.set_cons_zero, List.set_cons_succ])
                refine wpAnyH_take (i := 2) (oi := ?o3) (v := ?v3) ?hi3 (by kernel_rfl) (by kernel_rfl) (by kernel_rfl) ?hq3 ?hy3 (by assumption) ?hr3
                case hi3 => (simp only [List.getElem?_toArray, List.getElem?_cons_succ, List.getElem?_cons_zero]; rfl)
                case hy3 => ((refine .inl ⟨by rfl, ?_⟩); intro w hS; have q := hS.2.cell; go_simp; (try with_reducible rfl))
                case hq3 => exact fun _ _ _ h => h
                (simp only [Act.put, List.setIfInBounds_toArray, List.set_cons_zero, List.set_cons_succ])
                refine wpAnyH_take (i := 3) (oi := ?o4) (v := ?v4) ?hi4 (by kernel_rfl) (by kernel_rfl) (by kernel_rfl) ?hq4 ?hy4 (by assumption) ?hr4
                case hi4 => (simp only [List.getElem?_toArray, List.getElem?_cons_succ, List.getElem?_cons_zero]; rfl)
                case hy4 => ((refine .inl ⟨by rfl, ?_⟩); intro w hS; go_simp; (try with_reducible rfl))
                case hq4 => exact fun _ _ _ h => h
                (simp only [Act.put, List.setIfInBounds_toArray, List.set_cons_zero, List.set_cons_succ])
                refine wpAnyH_take (i := 4) (oi := ?o5) (v := ?v5) ?hi5 (by kernel_rfl) (by kernel_rfl) (by kernel_rfl) ?hq5 ?hy5 (by assumption) ?hr5
                case hi5 => (simp only [List.getElem?_toArray, List.getElem?_cons_succ, List.getElem?_cons_zero]; rfl)
                case hy5 => ((refine .inl ⟨by rfl, ?_⟩); intro w hS; have q := hS.2.cell; go_simp; (try with_reducible rfl))
                case hq5 => exact fun _ _ _ h => h
                (simp only [Act.put, List.setIfInBounds_toArray, List.set_cons_zero, List.set_cons_succ])
                refine wpAnyH_take (i := 6) (oi := ?o6) (v := ?v6) ?hi6 (by kernel_rfl) (by kernel_rfl) (by kernel_rfl) ?hq6 ?hy6 (by assumption) ?hr6
                case hi6 => (simp only [List.getElem?_toArray, List.getElem?_cons_succ, List.getElem?_cons_zero]; rfl)
                case hy6 => ((refine .inl ⟨by rfl, ?_⟩); intro w hS; go_simp; (try with_reducible rfl))
                case hq6 => exact fun _ _ _ h => h
                (simp only [Act.put, List.setIfInBounds_toArray, List.set_cons_zero, List.set_cons_succ])
                refine wpAnyH_take (i := 7) (oi := ?o7) (v := ?v7) ?hi7 (by kernel_rfl) (by kernel_rfl) (by kernel_rfl) ?hq7 ?hy7 (by assumption) ?hr7
                case hi7 => (simp only [List.getElem?_toArray, List.getElem?_cons_succ, List.getElem?_cons_zero]; rfl)
                case hy7 => ((refine .inl ⟨by rfl, ?_⟩); intro w hS; go_simp; (try with_reducible rfl))
                case hq7 => exact fun _ _ _ h => h
                (simp only [Act.put, List.setIfInBounds_toArray, List.set_cons_zero, List.set_cons_succ])
                refine wpAnyH_take (i := 8) (oi := ?o8) (v := ?v8) ?hi8 (by kernel_rfl) (by kernel_rfl) (by kernel_rfl) ?hq8 ?hy8 (by assumption) ?hr8
                case hi8 => (simp only [List.getElem?_toArray, List.getElem?_cons_succ, List.getElem?_cons_zero]; rfl)
                case hy8 => ((refine .inl ⟨by rfl, ?_⟩); intro w hS; go_simp; (try with_reducible rfl))
                case hq8 => exact fun _ _ _ h => h
                (simp only [Act.put, List.setIfInBounds_toArray, List.set_cons_zero, List.set_cons_succ])
                refine wpAnyH_take (i := 9) (oi := ?o9) (v := ?v9) ?hi9 (by kernel_rfl) (by kernel_rfl) (by kernel_rfl) ?hq9 ?hy9 (by assumption) ?hr9
                case hi9 => (simp only [List.getElem?_toArray, List.getElem?_cons_succ, List.getElem?_cons_zero]; rfl)
                case hy9 => ((refine .inl ⟨by rfl, ?_⟩); intro w hS; go_simp; (try with_reducible rfl))
                case hq9 => exact fun _ _ _ h => h
                (simp only [Act.put, List.setIfInBounds_toArray, List.set_cons_zero, List.set_cons_succ])
                refine wpAnyH_take (i := 10) (oi := ?o10) (v := ?v10) ?hi10 (by kernel_rfl) (by kernel_rfl) (by kernel_rfl) ?hq10 ?hy10 (by assumption) ?hr10
                case hi10 => (simp only [List.getElem?_toArray, List.getElem?_cons_succ, List.getElem?_cons_zero]; rfl)
                case hy10 => ((refine .inl ⟨by rfl, ?_⟩); intro w hS; have q := HQ5.out _ hS.1; go_simp; (try with_reducible rfl))
                case hq10 => exact fun _ _ _ h => h
                (simp only [Act.put, List.setIfInBounds_toArray, List.set_cons_zero, List.set_cons_succ])
                refine wpAnyH_take (i := 12) (oi := ?o11) (v := ?v11) ?hi11 (by kernel_rfl) (by kernel_rfl) (by kernel_rfl) ?hq11 ?hy11 (by assumption) ?hr11
                case hi11 => (simp only [List.getElem?_toArray, List.getElem?_cons_succ, List.getElem?_cons_zero]; rfl)
                case hy11 => ((refine .inl ⟨by rfl, ?_⟩); intro w hS; go_simp; (try with_reducible rfl))
                case hq11 => exact fun _ _ _ h => h
                (simp only [Act.put, List.setIfInBounds_toArray, List.set_cons_zero, List.set_cons_succ])
                refine wpAnyH_take (i := 13) (oi := ?o12) (v := ?v12) ?hi12 (by kernel_rfl) (by kernel_rfl) (by kernel_rfl) ?hq12 ?hy12 (by assumption) ?hr12
                case hi12 => (simp only [List.getElem?_toArray, List.getElem?_cons_succ, List.getElem?_cons_zero]; rfl)
                case hy12 => ((refine .inl ⟨by rfl, ?_⟩); intro w hS; have q := hS.2.cell; go_simp; (try with_reducible rfl))
                case hq12 => exact fun _ _ _ h => h
                (simp only [Act.put, List.setIfInBounds_toArray, List.set_cons_zero, List.set_cons_succ])
                refine wpAnyH_take (i := 14) (oi := ?o13) (v := ?v13) ?hi13 (by kernel_rfl) (by kernel_rfl) (by kernel_rfl) ?hq13 ?hy13 (by assumption) ?hr13
                case hi13 => (simp only [List.getElem?_toArray, List.getElem?_cons_succ, List.getElem?_cons_zero]; rfl)
                case hy13 => ((refine .inl ⟨by rfl, ?_⟩); intro w hS; go_simp; (try with_reducible rfl))
                case hq13 => exact fun _ _ _ h => h
                (simp only [Act.put, List.setIfInBounds_toArray, List.set_cons_zero, List.set_cons_succ])
                refine wpAnyH_take (i := 15) (oi := ?o14) (v := ?v14) ?hi14 (by kernel_rfl) (by kernel_rfl) (by kernel_rfl) ?hq14 ?hy14 (by assumption) ?hr14
                case hi14 => (simp only [List.getElem?_toArray, List.getElem?_cons_succ, List.getElem?_cons_zero]; rfl)
                case hy14 => ((refine .inl ⟨by rfl, ?_⟩); intro w hS; go_simp; (try with_reducible rfl))
                case hq14 => exact fun _ _ _ h => h
                (simp only [Act.put, List.setIfInBounds_toArray, List.set_cons_zero, List.set_cons_succ])
                refine wpAnyH_take (i := 16) (oi := ?o15) (v := ?v15) ?hi15 (by kernel_rfl) (by kernel_rfl) (by kernel_rfl) ?hq15 ?hy15 (by assumption) ?hr15
                case hi15 => (simp only [List.getElem?_toArray, List.getElem?_cons_succ, List.getElem?_cons_zero]; rfl)
                case hy15 => ((refine .inl ⟨by rfl, ?_⟩); intro w hS; go_simp; (try with_reducible rfl))
                case hq15 => exact fun _ _ _ h => h
                (simp only [Act.put, List.setIfInBounds_toArray, List.set_cons_zero, List.set_cons_succ])
                refine wpAnyH_take (i := 17) (oi := ?o16) (v := ?v16) ?hi16 (by kernel_rfl) (by kernel_rfl) (by kernel_rfl) ?hq16 ?hy16 (by assumption) ?hr16
                case hi16 => (simp only [List.getElem?_toArray, List.getElem?_cons_succ, List.getElem?_cons_zero]; rfl)
                case hy16 => ((refine .inl ⟨by rfl, ?_⟩); intro w hS; go_simp; (try with_reducible rfl))
                case hq16 => exact fun _ _ _ h => h
                (simp only [Act.put, List.setIfInBounds_toArray, List.set_cons_zero, List.set_cons_succ])
                refine wpAnyH_take (i := 18) (oi := ?o17) (v := ?v17) ?hi17 (by kernel_rfl) (by kernel_rfl) (by kernel_rfl) ?hq17 ?hy17 (by assumption) ?hr17
                case hi17 => (simp only [List.getElem?_toArray, List.getElem?_cons_succ, List.getElem?_cons_zero]; rfl)
                case hy17 => ((refine .inl ⟨by rfl, ?_⟩); intro w hS; go_simp; (try with_reducible rfl))
                case hq17 => exact fun _ _ _ h => h
                (simp only [Act.put, List.setIfInBounds_toArray, List.set_cons_zero, List.set_cons_succ])
                refine wpAnyH_take (i := 19) (oi := ?o18) (v := ?v18) ?hi18 (by kernel_rfl) (by kernel_rfl) (by kernel_rfl) ?hq18 ?hy18 (by assumption) ?hr18
                case hi18 => (simp only [List.getElem?_toArray, List.getElem?_cons_succ, List.getElem?_cons_zero]; rfl)
                case hy18 => ((refine .inl ⟨by rfl, ?_⟩); intro w hS; have q := HQ5.out _ hS.1; go_simp; (try with_reducible rfl))
                case hq18 => exact fun _ _ _ h => h
                (simp only [Act.put, List.setIfInBounds_toArray, List.set_cons_zero, List.set_cons_succ])
                refine wpAnyH_take (i := 20) (oi := ?o19) (v := ?v19) ?hi19 (by kernel_rfl) (by kernel_rfl) (by kernel_rfl) ?hq19 ?hy19 (by assumption) ?hr19
                case hi19 => (simp only [List.getElem?_toArray, List.getElem?_cons_succ, List.getElem?_cons_zero]; rfl)
                case hy19 => ((refine .inl ⟨by rfl, ?_⟩); intro w hS; go_simp; (try with_reducible rfl))
                case hq19 => exact fun _ _ _ h => h
                (simp only [Act.put, List.setIfInBounds_toArray, List.set_cons_zero, List.set_cons_succ])
                refine wpAnyH_take (i := 21) (oi := ?o20) (v := ?v20) ?hi20 (by kernel_rfl) (by kernel_rfl) (by kernel_rfl) ?hq20 ?hy20 (by assumption) ?hr20
                case hi20 => (simp only [List.getElem?_toArray, List.getElem?_cons_succ, List.getElem?_cons_zero]; rfl)
                case hy20 => ((refine .inl ⟨by rfl, ?_⟩); intro w hS; go_simp; (try with_reducible rfl))
                case hq20 => exact fun _ _ _ h => h
                (simp only [Act.put, List.setIfInBounds_toArray, List.set_cons_zero, List.set_cons_succ])
                refine wpAnyH_ready (rs := [5]) (by kernel_rfl) (by simp) ?_
                refine AllReadyH.cons rfl (fun K hK => ?_) AllReadyH.nil
                go_simp
                go_wp2_with (((with_reducible refine (CBG.out _).mono ?_); rintro e w8 ⟨rfl, hb8⟩))
                refine hK.out _ _ (⟨hHeld.1.trans (hb8.mono hHeld.1.size), hHeld.2.below hb8 hHeld.2.lt⟩) (fun hHeld1 => ?_)
                clear hK K
                (try simp only [Act.put, List.setIfInBounds_toArray, List.set_cons_zero, List.set_cons_succ])
                have HRI8 := Lib.hid (own_all HRI.out hb8)
                clear hb8 HRI
                clear hHeld; have hHeld := hHeld1; clear hHeld1
                refine wpAnyH_take (i := 11) (oi := ?o21) (v := ?v21) ?hi21 (by kernel_rfl) (by kernel_rfl) (by kernel_rfl) ?hq21 ?hy21 (by assumption) ?hr21
                case hi21 => (simp only [List.getElem?_toArray, List.getElem?_cons_succ, List.getElem?_cons_zero]; rfl)
                case hy21 => ((refine .inl ⟨by rfl, ?_⟩); intro w hS; go_simp; (try (rw [if_neg (by (try simp only [repS_size]); (try simp); omega)])); (try with_reducible rfl))
                case hq21 => exact fun _ _ _ h => h
                (simp only [Act.put, List.setIfInBounds_toArray, List.set_cons_zero, List.set_cons_succ])
                refine wpAnyH_ready (rs := [22]) (by kernel_rfl) (by simp) ?_
                refine AllReadyH.cons rfl (fun K hK => ?_) AllReadyH.nil
                go_simp
                go_wp2_with (((with_reducible refine (CBW.out _).mono ?_); rintro e w9 ⟨rfl, hb9⟩))
                refine hK.out _ _ (⟨hHeld.1.trans (hb9.mono hHeld.1.size), hHeld.2.below hb9 hHeld.2.lt⟩) (fun hHeld1 => ?_)
                clear hK K
                (try simp only [Act.put, List.setIfInBounds_toArray, List.set_cons_zero, List.set_cons_succ])
                have HRI9 := Lib.hid (own_all HRI8.out hb9)
                clear hb9 HRI8
                clear hHeld; have hHeld := hHeld1; clear hHeld1
                have qk : w9.cell? ⟨g, a, none⟩ = some (.string ⟨#[]⟩) := by
                  rw [HRI9.out.cellAt a (by omega)]
                  exact strV_get HEM.out
                have fk := HRI9.out.frozenAt a
                refine wpAnyH_take (i := 23) (oi := ?o22) (v := ?v22) ?hi22 (by kernel_rfl) (by kernel_rfl) (by kernel_rfl) ?hq22 ?hy22 (by assumption) ?hr22
                case hi22 => (simp only [List.getElem?_toArray, List.getElem?_cons_succ, List.getElem?_cons_zero]; rfl)
                case hy22 => ((refine .inl ⟨by rfl, ?_⟩); intro w hS; go_simp; (try (rw [if_neg (by (try simp only [repS_size]); (try simp); omega)])); (try with_reducible rfl))
                case hq22 => exact fun _ _ _ h => h
                (simp only [Act.put, List.setIfInBounds_toArray, List.set_cons_zero, List.set_cons_succ])
                refine wpAnyH_take (i := 24) (oi := ?o23) (v := ?v23) ?hi23 (by kernel_rfl) (by kernel_rfl) (by kernel_rfl) ?hq23 ?hy23 (by assumption) ?hr23
                case hi23 => (simp only [List.getElem?_toArray, List.getElem?_cons_succ, List.getElem?_cons_zero]; rfl)
                case hy23 => ((refine .inl ⟨by rfl, ?_⟩); intro w hS; go_simp; (try with_reducible rfl))
                case hq23 => exact fun _ _ _ h => h
                (simp only [Act.put, List.setIfInBounds_toArray, List.set_cons_zero, List.set_cons_succ])
                refine wpAnyH_ready (rs := [25]) (by kernel_rfl) (by simp) ?_
                refine AllReadyH.cons rfl (fun K hK => ?_) AllReadyH.nil
                go_simp
                refine hK.out _ _ (⟨hHeld.1.setCell (p := ⟨g, a, none⟩) (Nat.le_of_eq HGW.out) _, hHeld.2.far (p := ⟨g, a, none⟩) hgpN _⟩) (fun hHeld1 => ?_)
                clear hK K
                (try simp only [Act.put, List.setIfInBounds_toArray, List.set_cons_zero, List.set_cons_succ])
                clear hHeld; have hHeld := hHeld1; clear hHeld1
                refine wpAnyH_done (by kernel_rfl) ?_ _
                have HRN : Hid ((w9.setCell ⟨g, a, none⟩ (.string (repS 33 o ++ T ++ repS 63 (2048 - o - T.size)))).ownsRow g 9 1 (.slice (some ⟨g, 0, none⟩) n3 n3) n3 (strV (imgO ll os (j + 1)))) := Lib.hid (by
                  rw [← imgO_set (by rw [HN.out]; omega), HA.out, HBK.out, ← strV_set]
                  exact (HRI9.out.stored a _).1)
                have HBN := Lib.hid hHeld.1
                clear hw1 hw2 hw3 hHeld HRI9 HBK HQ5 HQ6 CBG CBW HEM HA hgpN qk fk
                go_wp2_with fail
                refine ⟨⟨j + 1, by omega, by simp, HRN.out, HBN.out⟩, by simp [intOf]; omega⟩
              · obtain rfl : j = k := by omega
                have hge3 : ¬ (j : Int) < (j : Int) := by omega
                have HR := Lib.hid hrow
                have HBJ := Lib.hid hbel
                have wf := walk_fin (os := os) HE2.out (by rw [HN.out]; exact e3) (by rw [HN.out]; exact e4) HZ0.out HS2.out HS3.out
                have hsz := jT_size HZ0.out (show 0 < ll.length by rw [HN.out]; omega)
                rw [HLK.out] at wf hsz
                obtain ⟨f1, f2, f3, f4⟩ := wf
                have hjz := HJZ.out
                have HLF := Lib.hid (fun t (ht : t < j) => lost_fin (os := os) (t := t) HE2.out (by rw [HN.out]; omega) (by rw [HN.out]; exact e4) HZ0.out HS2.out HS3.out)
                rw [HLK.out, HLN.out] at HLF
                have CW := Lib.hid (walk_any (some ⟨g, 0, none⟩) n3 (imgO ll os j) (jT ll (plsO ll os j) 0) 0 wr (SlAt.of_own' hrow (Nat.le_refl _)) (by rw [imgO_length, HN.out]; omega) (by omega) (by rw [f2, HLN.out]; exact e6))
                unfold WalkRes at CW
                rw [f1, f3, f4, imgO_length, HLK.out, HN3.out, HLN.out] at CW
                obtain ⟨b5, o5, hA5, hb5⟩ := HS5.out.addr (by unfold strV; rw [List.length_map, HRL.out]; omega)
                subst hA5
                have HQ5 : Hid (∀ w', Below w5.heap.size w5 w' → w'.cell? ⟨b5, o5, none⟩ = some (.string (jT ll (plsO ll os j) 0))) := Lib.hid (fun w' hb => SlAt.str (SlAt.below HS5.out hb) rfl (joinR_get HS1.out (k := 0) (by rw [HN.out]; omega)))
                have HQ6 : Hid (∀ w', Below w5.heap.size w5 w' → w'.cell? ⟨b2, o2, none⟩ = some (.int .i64 (jL ll 0))) := Lib.hid (fun w' hb => SlAt.int (SlAt.below HL5.out hb) rfl (jL_get (k := 0) (by rw [HN.out]; omega)))
                have htz : (jT ll (plsO ll os j) 0).size ≤ 1000000 := by omega
                rw [← hsz] at HQ6
                generalize jT ll (plsO ll os j) 0 = T0 at *
                have q5 := HQ5.out _ HBJ.out
                clear f1 f2 f3 f4 hsz hjz hrow hbel hlt hj
                go_wp2_with fail
                refine CW.out.mono ?_
                rintro e w10 ⟨hb10, A10, c10, rfl, hen10⟩
                have HB10 := Lib.hid (HBJ.out.trans (hb10.mono HBJ.out.size))
                have HR10 := Lib.hid (own_all HR.out hb10)
                have HBW := Lib.hid (HB6.out.trans (HB10.out.mono HB6.out.size))
                have CSM := Lib.hid (fun w' (hb : Below w10.heap.size w10 w') => ents_same A10 A c10 cap l w' ((hen10.below hb).mono hb.size) ((HE.out.below (HBW.out.trans (hb.mono HBW.out.size))).mono (HBW.out.trans (hb.mono HBW.out.size)).size) (by rw [HLN.out]; omega))
                rw [HLN.out] at CSM
                clear hb10 CW hen10 q5 HBJ HR
                go_upto_region 34 with fail
                refine wp_region_held_drew (S := (fun w' => Below w10.heap.size w10 w')) (by kernel_rfl) ((Below.refl _ _).drew) (fun hHeld => ?_)
                generalize w10.drew = wd at *
                refine wpAnyH_take (i := 0) (oi := ?o24) (v := ?v24) ?hi24 (by kernel_rfl) (by kernel_rfl) (by kernel_rfl) ?hq24 ?hy24 (by assumption) ?hr24
                case hi24 => (simp only [List.getElem?_toArray, List.getElem?_cons_zero]; rfl)
                case hy24 => ((refine .inl ⟨by rfl, ?_⟩); intro w hS; go_simp; (try with_reducible rfl))
                case hq24 => exact fun _ _ _ h => h
                (simp only [Act.put, List.setIfInBounds_toArray, List.set_cons_zero, List.set_cons_succ])
                refine wpAnyH_take (i := 1) (oi := ?o25) (v := ?v25) ?hi25 (by kernel_rfl) (by kernel_rfl) (by kernel_rfl) ?hq25 ?hy25 (by assumption) ?hr25
                case hi25 => (simp only [List.getElem?_toArray, List.getElem?_cons_succ, List.getElem?_cons_zero]; rfl)
                case hy25 => ((refine .inl ⟨by rfl, ?_⟩); intro w hS; go_simp; (try with_reducible rfl))
                case hq25 => exact fun _ _ _ h => h
                (simp only [Act.put, List.setIfInBounds_toArray, List.set_cons_zero, List.set_cons_succ])
                refine wpAnyH_take (i := 2) (oi := ?o26) (v := ?v26) ?hi26 (by kernel_rfl) (by kernel_rfl) (by kernel_rfl) ?hq26 ?hy26 (by assumption) ?hr26
                case hi26 => (simp only [List.getElem?_toArray, List.getElem?_cons_succ, List.getElem?_cons_zero]; rfl)
                case hy26 => ((refine .inl ⟨by rfl, ?_⟩); intro w hS; go_simp; (try with_reducible rfl))
                case hq26 => exact fun _ _ _ h => h
                (simp only [Act.put, List.setIfInBounds_toArray, List.set_cons_zero, List.set_cons_succ])
                refine wpAnyH_take (i := 3) (oi := ?o27) (v := ?v27) ?hi27 (by kernel_rfl) (by kernel_rfl) (by kernel_rfl) ?hq27 ?hy27 (by assumption) ?hr27
                case hi27 => (simp only [List.getElem?_toArray, List.getElem?_cons_succ, List.getElem?_cons_zero]; rfl)
                case hy27 => ((refine .inl ⟨by rfl, ?_⟩); intro w hS; go_simp; (try with_reducible rfl))
                case hq27 => exact fun _ _ _ h => h
                (simp only [Act.put, List.setIfInBounds_toArray, List.set_cons_zero, List.set_cons_succ])
                refine wpAnyH_take (i := 4) (oi := ?o28) (v := ?v28) ?hi28 (by kernel_rfl) (by kernel_rfl) (by kernel_rfl) ?hq28 ?hy28 (by assumption) ?hr28
                case hi28 => (simp only [List.getElem?_toArray, List.getElem?_cons_succ, List.getElem?_cons_zero]; rfl)
                case hy28 => ((refine .inl ⟨by rfl, ?_⟩); intro w hS; go_simp; (try with_reducible rfl))
                case hq28 => exact fun _ _ _ h => h
                (simp only [Act.put, List.setIfInBounds_toArray, List.set_cons_zero, List.set_cons_succ])
                refine wpAnyH_take (i := 5) (oi := ?o29) (v := ?v29) ?hi29 (by kernel_rfl) (by kernel_rfl) (by kernel_rfl) ?hq29 ?hy29 (by assumption) ?hr29
                case hi29 => (simp only [List.getElem?_toArray, List.getElem?_cons_succ, List.getElem?_cons_zero]; rfl)
                case hy29 => ((refine .inl ⟨by rfl, ?_⟩); intro w hS; go_simp; (try with_reducible rfl))
                case hq29 => exact fun _ _ _ h => h
                (simp only [Act.put, List.setIfInBounds_toArray, List.set_cons_zero, List.set_cons_succ])
                refine wpAnyH_take (i := 6) (oi := ?o30) (v := ?v30) ?hi30 (by kernel_rfl) (by kernel_rfl) (by kernel_rfl) ?hq30 ?hy30 (by assumption) ?hr30
                case hi30 => (simp only [List.getElem?_toArray, List.getElem?_cons_succ, List.getElem?_cons_zero]; rfl)
                case hy30 => ((refine .inl ⟨by rfl, ?_⟩); intro w hS; go_simp; (try with_reducible rfl))
                case hq30 => exact fun _ _ _ h => h
                (simp only [Act.put, List.setIfInBounds_toArray, List.set_cons_zero, List.set_cons_succ])
                refine wpAnyH_take (i := 7) (oi := ?o31) (v := ?v31) ?hi31 (by kernel_rfl) (by kernel_rfl) (by kernel_rfl) ?hq31 ?hy31 (by assumption) ?hr31
                case hi31 => (simp only [List.getElem?_toArray, List.getElem?_cons_succ, List.getElem?_cons_zero]; rfl)
                case hy31 => ((refine .inl ⟨by rfl, ?_⟩); intro w hS; go_simp; (try with_reducible rfl))
                case hq31 => exact fun _ _ _ h => h
                (simp only [Act.put, List.setIfInBounds_toArray, List.set_cons_zero, List.set_cons_succ])
                refine wpAnyH_take (i := 8) (oi := ?o32) (v := ?v32) ?hi32 (by kernel_rfl) (by kernel_rfl) (by kernel_rfl) ?hq32 ?hy32 (by assumption) ?hr32
                case hi32 => (simp only [List.getElem?_toArray, List.getElem?_cons_succ, List.getElem?_cons_zero]; rfl)
                case hy32 => ((refine .inl ⟨by rfl, ?_⟩); intro w hS; go_simp; (try with_reducible rfl))
                case hq32 => exact fun _ _ _ h => h
                (simp only [Act.put, List.setIfInBounds_toArray, List.set_cons_zero, List.set_cons_succ])
                refine wpAnyH_ready (rs := [9]) (by kernel_rfl) (by simp) ?_
                refine AllReadyH.cons rfl (fun K hK => ?_) AllReadyH.nil
                go_simp
                go_wp2_with (((with_reducible refine (CSM.out _ hHeld).mono ?_); rintro e w11 ⟨rfl, hb11⟩))
                refine hK.out _ _ (hHeld.trans (hb11.mono hHeld.size)) (fun hHeld1 => ?_)
                clear hK K
                (try simp only [Act.put, List.setIfInBounds_toArray, List.set_cons_zero, List.set_cons_succ])
                clear hb11
                clear hHeld; have hHeld := hHeld1; clear hHeld1
                refine wpAnyH_take (i := 10) (oi := ?o33) (v := ?v33) ?hi33 (by kernel_rfl) (by kernel_rfl) (by kernel_rfl) ?hq33 ?hy33 (by assumption) ?hr33
                case hi33 => (simp only [List.getElem?_toArray, List.getElem?_cons_succ, List.getElem?_cons_zero]; rfl)
                case hy33 => ((refine .inl ⟨by rfl, ?_⟩); intro w hS; go_simp; (try with_reducible rfl))
                case hq33 => exact fun _ _ _ h => h
                (simp only [Act.put, List.setIfInBounds_toArray, List.set_cons_zero, List.set_cons_succ])
                refine wpAnyH_take (i := 11) (oi := ?o34) (v := ?v34) ?hi34 (by kernel_rfl) (by kernel_rfl) (by kernel_rfl) ?hq34 ?hy34 (by assumption) ?hr34
                case hi34 => (simp only [List.getElem?_toArray, List.getElem?_cons_succ, List.getElem?_cons_zero]; rfl)
                case hy34 => ((refine .inl ⟨by rfl, ?_⟩); intro w hS; go_simp; (try with_reducible rfl))
                case hq34 => exact fun _ _ _ h => h
                (simp only [Act.put, List.setIfInBounds_toArray, List.set_cons_zero, List.set_cons_succ])
                refine wpAnyH_take (i := 12) (oi := ?o35) (v := ?v35) ?hi35 (by kernel_rfl) (by kernel_rfl) (by kernel_rfl) ?hq35 ?hy35 (by assumption) ?hr35
                case hi35 => (simp only [List.getElem?_toArray, List.getElem?_cons_succ, List.getElem?_cons_zero]; rfl)
                case hy35 => ((refine .inl ⟨by rfl, ?_⟩); intro w hS; go_simp; (try with_reducible rfl))
                case hq35 => exact fun _ _ _ h => h
                (simp only [Act.put, List.setIfInBounds_toArray, List.set_cons_zero, List.set_cons_succ])
                refine wpAnyH_take (i := 13) (oi := ?o36) (v := ?v36) ?hi36 (by kernel_rfl) (by kernel_rfl) (by kernel_rfl) ?hq36 ?hy36 (by assumption) ?hr36
                case hi36 => (simp only [List.getElem?_toArray, List.getElem?_cons_succ, List.getElem?_cons_zero]; rfl)
                case hy36 => ((refine .inl ⟨by rfl, ?_⟩); intro w hS; go_simp; (try with_reducible rfl))
                case hq36 => exact fun _ _ _ h => h
                (simp only [Act.put, List.setIfInBounds_toArray, List.set_cons_zero, List.set_cons_succ])
                refine wpAnyH_take (i := 14) (oi := ?o37) (v := ?v37) ?hi37 (by kernel_rfl) (by kernel_rfl) (by kernel_rfl) ?hq37 ?hy37 (by assumption) ?hr37
                case hi37 => (simp only [List.getElem?_toArray, List.getElem?_cons_succ, List.getElem?_cons_zero]; rfl)
                case hy37 => ((refine .inl ⟨by rfl, ?_⟩); intro w hS; go_simp; (try with_reducible rfl))
                case hq37 => exact fun _ _ _ h => h
                (simp only [Act.put, List.setIfInBounds_toArray, List.set_cons_zero, List.set_cons_succ])
                refine wpAnyH_take (i := 15) (oi := ?o38) (v := ?v38) ?hi38 (by kernel_rfl) (by kernel_rfl) (by kernel_rfl) ?hq38 ?hy38 (by assumption) ?hr38
                case hi38 => (simp only [List.getElem?_toArray, List.getElem?_cons_succ, List.getElem?_cons_zero]; rfl)
                case hy38 => ((refine .inl ⟨by rfl, ?_⟩); intro w hS; have q := HQ5.out _ (HB10.out.trans (hS.mono HB10.out.size)); go_simp; (try with_reducible rfl))
                case hq38 => exact fun _ _ _ h => h
                (simp only [Act.put, List.setIfInBounds_toArray, List.set_cons_zero, List.set_cons_succ])
                refine wpAnyH_take (i := 16) (oi := ?o39) (v := ?v39) ?hi39 (by kernel_rfl) (by kernel_rfl) (by kernel_rfl) ?hq39 ?hy39 (by assumption) ?hr39
                case hi39 => (simp only [List.getElem?_toArray, List.getElem?_cons_succ, List.getElem?_cons_zero]; rfl)
                case hy39 => ((refine .inl ⟨by rfl, ?_⟩); intro w hS; go_simp; (try with_reducible rfl))
                case hq39 => exact fun _ _ _ h => h
                (simp only [Act.put, List.setIfInBounds_toArray, List.set_cons_zero, List.set_cons_succ])
                refine wpAnyH_take (i := 17) (oi := ?o40) (v := ?v40) ?hi40 (by kernel_rfl) (by kernel_rfl) (by kernel_rfl) ?hq40 ?hy40 (by assumption) ?hr40
                case hi40 => (simp only [List.getElem?_toArray, List.getElem?_cons_succ, List.getElem?_cons_zero]; rfl)
                case hy40 => ((refine .inl ⟨by rfl, ?_⟩); intro w hS; go_simp; (try with_reducible rfl))
                case hq40 => exact fun _ _ _ h => h
                (simp only [Act.put, List.setIfInBounds_toArray, List.set_cons_zero, List.set_cons_succ])
                refine wpAnyH_take (i := 18) (oi := ?o41) (v := ?v41) ?hi41 (by kernel_rfl) (by kernel_rfl) (by kernel_rfl) ?hq41 ?hy41 (by assumption) ?hr41
                case hi41 => (simp only [List.getElem?_toArray, List.getElem?_cons_succ, List.getElem?_cons_zero]; rfl)
                case hy41 => ((refine .inl ⟨by rfl, ?_⟩); intro w hS; go_simp; (try with_reducible rfl))
                case hq41 => exact fun _ _ _ h => h
                (simp only [Act.put, List.setIfInBounds_toArray, List.set_cons_zero, List.set_cons_succ])
                refine wpAnyH_take (i := 19) (oi := ?o42) (v := ?v42) ?hi42 (by kernel_rfl) (by kernel_rfl) (by kernel_rfl) ?hq42 ?hy42 (by assumption) ?hr42
                case hi42 => (simp only [List.getElem?_toArray, List.getElem?_cons_succ, List.getElem?_cons_zero]; rfl)
                case hy42 => ((refine .inl ⟨by rfl, ?_⟩); intro w hS; have q := HQ6.out _ (HB10.out.trans (hS.mono HB10.out.size)); go_simp; (try with_reducible rfl))
                case hq42 => exact fun _ _ _ h => h
                (simp only [Act.put, List.setIfInBounds_toArray, List.set_cons_zero, List.set_cons_succ])
                refine wpAnyH_take (i := 20) (oi := ?o43) (v := ?v43) ?hi43 (by kernel_rfl) (by kernel_rfl) (by kernel_rfl) ?hq43 ?hy43 (by assumption) ?hr43
                case hi43 => (simp only [List.getElem?_toArray, List.getElem?_cons_succ, List.getElem?_cons_zero]; rfl)
                case hy43 => ((refine .inl ⟨by rfl, ?_⟩); intro w hS; go_simp; (try with_reducible rfl))
                case hq43 => exact fun _ _ _ h => h
                (simp only [Act.put, List.setIfInBounds_toArray, List.set_cons_zero, List.set_cons_succ])
                refine wpAnyH_take (i := 21) (oi := ?o44) (v := ?v44) ?hi44 (by kernel_rfl) (by kernel_rfl) (by kernel_rfl) ?hq44 ?hy44 (by assumption) ?hr44
                case hi44 => (simp only [List.getElem?_toArray, List.getElem?_cons_succ, List.getElem?_cons_zero]; rfl)
                case hy44 => ((refine .inl ⟨by rfl, ?_⟩); intro w hS; go_simp; (try with_reducible rfl))
                case hq44 => exact fun _ _ _ h => h
                (simp only [Act.put, List.setIfInBounds_toArray, List.set_cons_zero, List.set_cons_succ])
                refine wpAnyH_done (by kernel_rfl) ?_ _
                have HBD := Lib.hid (HBW.out.trans (hHeld.mono HBW.out.size))
                have HB5D := Lib.hid (HB10.out.trans (hHeld.mono HB10.out.size))
                have HRD := Lib.hid (own_all HR10.out hHeld)
                clear hHeld HBW HB10 HR10 CSM
                by_cases hk0 : j = 0
                · have hk0B : ((j : Int) == 0) = true := by simp; omega
                  go_wp2_with fail
                  go_ret
                  exact ⟨rfl, HBD.out⟩
                · have hk0B : ((j : Int) == 0) = false := by rw [beq_eq_false_iff_ne]; omega
                  go_upto_region 38 with fail
                  obtain ⟨h0l, h1l⟩ := wf_u8 hlost
                  obtain ⟨L, rfl⟩ : ∃ L : Nat, lost = L := ⟨lost.toNat, by omega⟩
                  obtain ⟨t, ht⟩ : ∃ t, L % j = t := ⟨_, rfl⟩
                  have htj : t < j := by rw [← ht]; exact Nat.mod_lt _ (by omega)
                  have htm : (L : Int).tmod (j : Int) = (t : Int) := by rw [Int.tmod_eq_emod_of_nonneg (by omega), ← ht]; rfl
                  clear ht hlost
                  obtain ⟨bp, op, hAp, hbp⟩ := HP5.out.one (by rw [plsO_length]; omega)
                  subst hAp
                  obtain ⟨a, ha⟩ : ∃ a, 3 + t = a := ⟨_, rfl⟩
                  obtain ⟨y, hy⟩ : ∃ y, (plO ll os t).off = y := ⟨_, rfl⟩
                  have HPC := (PlAt.below HP5.out HB5D.out).cells rfl (plsO_get (ll := ll) (os := os) htj)
                  rw [hy, show (plO ll os t).lba = (a : Int) from by show 3 + (t : Int) = _; omega] at HPC
                  obtain ⟨p0, p1⟩ := HPC
                  have lf := HLF.out t htj
                  rw [ha, show 3 + (t : Int) = (a : Int) by omega] at lf
                  obtain ⟨f1, f2, f3, f4⟩ := lf
                  have han : a < n3 := by have := HN3.out; omega
                  have hgp : g < w11.heap.size := (HRD.out.lt g rfl).2
                  have HRI := Lib.hid (own_all HRD.out ((Below.refl w11.heap.size w11).alloc (Nat.le_refl _) (.cells #[.int .i64 (a : Int), .int .i64 y] 53)))
                  have hsz9 : (w11.setCell ⟨g, a, none⟩ (.string ⟨#[]⟩)).heap.size = w11.heap.size := by simp
                  have HRS : Hid (((w11.setCell ⟨g, a, none⟩ (.string ⟨#[]⟩)).alloc (.cells #[.int .i64 (a : Int), .int .i64 y] 53)).ownsRow g 9 1 (.slice (some ⟨g, 0, none⟩) n3 n3) n3 (strV ((imgO ll os j).set a ⟨#[]⟩))) := Lib.hid (by
                    rw [← strV_set]
                    exact own_all (HRD.out.stored a _).1 ((Below.refl _ _).alloc (Nat.le_refl _) _))
                  obtain ⟨s0, hs0⟩ := imgO_cell (ll := ll) (os := os) (i := j) (j := a) (by rw [HN.out]; omega)
                  have qk : (w11.alloc (.cells #[.int .i64 (a : Int), .int .i64 y] 53)).cell? ⟨g, a, none⟩ = some (.string s0) := by
                    rw [HRI.out.cellAt a (by omega)]
                    exact hs0
                  have fk := HRI.out.frozenAt a
                  have HRX : Hid (RowAt ((w11.setCell ⟨g, a, none⟩ (.string ⟨#[]⟩)).alloc (.cells #[.int .i64 (a : Int), .int .i64 y] 53)) w11.heap.size 53 #[.int .i64 (a : Int), .int .i64 y]) := Lib.hid (by
                    have := RowAt.new (w11.setCell ⟨g, a, none⟩ (.string ⟨#[]⟩)) 53 #[.int .i64 (a : Int), .int .i64 y]
                    rwa [hsz9] at this)
                  have HBS : Hid (Below w.heap.size w ((w11.setCell ⟨g, a, none⟩ (.string ⟨#[]⟩)).alloc (.cells #[.int .i64 (a : Int), .int .i64 y] 53))) := Lib.hid (by
                    have := HBD.out.setCell (p := ⟨g, a, none⟩) (by have := HB6.out.size; rw [HGW.out] at this; exact this) (.string ⟨#[]⟩)
                    exact this.alloc this.size _)
                  have HB5S : Hid (Below w5.heap.size w5 ((w11.setCell ⟨g, a, none⟩ (.string ⟨#[]⟩)).alloc (.cells #[.int .i64 (a : Int), .int .i64 y] 53))) := Lib.hid (by
                    have := HB5D.out.setCell (p := ⟨g, a, none⟩) (Nat.le_of_eq HGW.out) (.string ⟨#[]⟩)
                    exact this.alloc this.size _)
                  have CW2 := Lib.hid (walk_any (some ⟨g, 0, none⟩) n3 ((imgO ll os j).set a ⟨#[]⟩) T0 0 _ (SlAt.of_own' HRS.out (Nat.le_refl _)) (by rw [List.length_set, imgO_length, HN.out]; omega) htz (by omega))
                  unfold WalkRes at CW2
                  rw [f1, f3, f4, List.length_set, imgO_length, HLK.out, HN3.out, List.length_nil] at CW2
                  have q5 := HQ5.out _ HB5S.out
                  have htjI : (t : Int) < (j : Int) := by omega
                  clear f1 f2 f3 f4 hy ha h0l hs0 HRI HRD HQ5 HQ6 HB5S hsz9
                  go_upto_region 40 with fail
                  generalize (w11.setCell ⟨g, a, none⟩ (.string ⟨#[]⟩)).alloc (.cells #[.int .i64 (a : Int), .int .i64 y] 53) = w12 at *
                  clear p0 p1 qk fk
                  go_wp2_with fail
                  refine CW2.out.mono ?_
                  rintro e w13 ⟨hb13, A13, c13, rfl, _⟩
                  have qb := (HRX.out.below hb13 HRX.out.lt).cell
                  go_wp2_with fail
                  go_ret
                  exact ⟨rfl, HBS.out.trans (hb13.mono HBS.out.size)⟩
    · have HN := Lib.hid (gr_no hge)
      rw [HN.out] at CG
      generalize grE l R = E at *
      clear hsm hx hl ho
      generalize l.length = n at *
      go_enter Try.func6, Try.ntmps6
      go_wp2_with fail
      refine (awake_any _).mono ?_
      rintro e w0 ⟨rfl, hb0⟩
      have C := Lib.hid (HS.out w0 hb0)
      have C1 := Lib.hid (CG.out w0 hb0)
      have HB := Lib.hid hb0
      clear hb0 HS CG
      go_wp2_with fail
      refine C.out.mono ?_
      rintro e _ ⟨rfl, rfl⟩
      go_wp2_with fail
      refine C1.out.mono ?_
      rintro e w1 ⟨hb1, A1, c1, hs1, rfl, _, _, _⟩
      have HB1 := Lib.hid (HB.out.trans (hb1.mono HB.out.size))
      clear hb1 HB C1 C
      go_wp2_with fail
      go_ret
      exact ⟨rfl, HB1.out⟩
end Go.Proofs.Ytnomodbcpndocaa
