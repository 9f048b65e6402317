/-
  The reference's Decode: the first image and the sections.
-/
import Derived.Test.YtjlppndlgdgekaaRDecQ
import Derived.Deep.Cut
import Derived.Deep.RegionWith
namespace Go.Proofs.Ytjlppndlgdgekaa
open Go.RowKit
set_option linter.unusedVariables false

theorem info_imgI : (Try.prog.info? 34).map (fun i => (i.zero, i.size, i.bytes)) = some (some (.agg #[.int .i64 0, .int .i64 0, .int .i64 0, .int .i64 0, .int .i64 0, .bool false]), 6, 48) := info_img
theorem DecRes.nil {s : ByteArray} {w w' : World} {e : Ending} {c : Int} (h : decR s.data.toList = (c, [])) (hb : Below w.heap.size w w') (he : e = .returned (.tuple #[.slice none 0 0, .int .i64 c])) : DecRes s w e w' :=
  ⟨hb, none, 0, by rw [h]; exact he, by rw [h]; exact SlAt.nil _ _ _⟩
theorem DecRes.own {s : ByteArray} {w w' : World} {e : Ending} {A : Option Addr} {c n base : Nat} {out : List Img} (h : decR s.data.toList = (0, out)) (hb : Below w.heap.size w w') (ho : w'.ownsRow base 34 6 (.slice A n c) n (flat encI out)) (hn : n = out.length)
    (he : e = .returned (.tuple #[.slice A n c, .int .i64 0])) : DecRes s w e w' := by
  subst hn
  exact ⟨hb, A, c, by rw [h]; exact he, by rw [h]; exact SlAt.of_own' ho (Nat.le_refl _)⟩

set_option maxHeartbeats 8000000 in
set_option maxRecDepth 100000 in
theorem rdecode_go (s : ByteArray) (w : World) (hs : s.size = 2048) (hk : keyOk (entAt s.data.toList 0) = true) (hp : platB (byteL (entAt s.data.toList 0) 1) = true) :
    Calls Try.prog 14 #[.string s] w (DecRes s w) := by
  have h0 : 0 < s.size := by omega
  have h1 : 1 < s.size := by omega
  have h30 : 30 < s.size := by omega
  have h31 : 31 < s.size := by omega
  have hsI : (s.size : Int) = 2048 := by omega
  have CS := Lib.hid (fun w => rsum_any (s.extract 0 32) w (by simp; omega))
  have HD := Lib.hid (decR_sec (s := s.data.toList) (by simp; omega) hk hp)
  obtain ⟨a0, a1, a2, a3⟩ := keyOk_facts s hs h0 h30 h31 hk
  rw [a3] at CS
  rw [ent0_get s h1] at hp HD
  have CP := Lib.hid (fun w => rplat_any (s[1].toNat : Int) w)
  rw [hp] at CP
  have b1l := s[1].toNat_lt
  have hx : (s.extract 32 64).size = 32 := by simp; omega
  have hx2 : (s.extract 32 64).data.toList = entAt s.data.toList 1 := by rw [ext_data]; rfl
  have CR := Lib.hid (fun w => rread_any (s.extract 32 64) hx (s[1].toNat : Int) w)
  rw [hx2] at CR
  generalize hrd : rdR (entAt s.data.toList 1) (s[1].toNat : Int) = rr at *
  have HRD := Lib.hid hrd
  have ew : IntKind.i64.wrap (s[1].toNat : Int) = (s[1].toNat : Int) := IntWalk.i64_in _ (by omega)
  clear hk hs hp a3 hx hx2 hrd
  obtain ⟨⟨ip, im, ig, is, il, ib⟩, ie⟩ := rr
  dsimp only [imV] at CR
  go_enter Try.func14, Try.ntmps14
  go_wp2_with fail
  refine (CS.out _).mono ?_
  rintro e w1 ⟨rfl, hb1⟩
  go_wp2_with fail
  refine (CP.out _).mono ?_
  rintro e w2 ⟨rfl, hb2⟩
  have hb3 := hb1.trans (hb2.mono hb1.size)
  go_upto_region 7 with fail
  have hS : St w w2 [] := ⟨hb3, fun r hr => (List.not_mem_nil hr).elim, List.Pairwise.nil⟩
  clear hb1 hb2 hb3
  go_cut [4, 5] from 42 to 50 (fun x4 x5 wx => ∃ g, x4 = .pointer (some ⟨g, 0, none⟩) ∧ x5 = .int .i64 ie ∧ St w wx [(g, 34, #[.int .i64 ip, .int .i64 im, .int .i64 ig, .int .i64 is, .int .i64 il, .bool ib])])
  case first =>
    refine wp_region_held_drew (S := fun _ => True) (by kernel_rfl) (trivial) (fun hHeld => ?_)
    refine wpAnyH_take (i := 0) (oi := ?o17) (v := ?v17) ?hi17 (by kernel_rfl) (by kernel_rfl) (by kernel_rfl) ?hq17 ?hy17 (by assumption) ?hr17
    case hi17 => (simp only [List.getElem?_toArray, List.getElem?_cons_zero]; rfl)
    case hy17 => ((refine .inl ⟨by rfl, ?_⟩); intro w hS; go_simp; (try with_reducible rfl))
    case hq17 => exact fun _ _ _ h => h
    (simp only [Act.put, List.setIfInBounds_toArray, List.set_cons_zero, List.set_cons_succ])
    refine wpAnyH_take (i := 1) (oi := ?o18) (v := ?v18) ?hi18 (by kernel_rfl) (by kernel_rfl) (by kernel_rfl) ?hq18 ?hy18 (by assumption) ?hr18
    case hi18 => (simp only [List.getElem?_toArray, List.getElem?_cons_succ, List.getElem?_cons_zero]; rfl)
    case hy18 => ((refine .inl ⟨by rfl, ?_⟩); intro w hS; go_simp; (try with_reducible rfl))
    case hq18 => exact fun _ _ _ h => h
    (simp only [Act.put, List.setIfInBounds_toArray, List.set_cons_zero, List.set_cons_succ])
    refine wpAnyH_take (i := 2) (oi := ?o19) (v := ?v19) ?hi19 (by kernel_rfl) (by kernel_rfl) (by kernel_rfl) ?hq19 ?hy19 (by assumption) ?hr19
    case hi19 => (simp only [List.getElem?_toArray, List.getElem?_cons_succ, List.getElem?_cons_zero]; rfl)
    case hy19 => ((refine .inl ⟨by rfl, ?_⟩); intro w hS; go_simp; (try with_reducible rfl))
    case hq19 => exact fun _ _ _ h => h
    (simp only [Act.put, List.setIfInBounds_toArray, List.set_cons_zero, List.set_cons_succ])
    refine wpAnyH_take (i := 3) (oi := ?o20) (v := ?v20) ?hi20 (by kernel_rfl) (by kernel_rfl) (by kernel_rfl) ?hq20 ?hy20 (by assumption) ?hr20
    case hi20 => (simp only [List.getElem?_toArray, List.getElem?_cons_succ, List.getElem?_cons_zero]; rfl)
    case hy20 => ((refine .inl ⟨by rfl, ?_⟩); intro w hS; go_simp; (try with_reducible rfl))
    case hq20 => exact fun _ _ _ h => h
    (simp only [Act.put, List.setIfInBounds_toArray, List.set_cons_zero, List.set_cons_succ])
    refine wpAnyH_take (i := 4) (oi := ?o21) (v := ?v21) ?hi21 (by kernel_rfl) (by kernel_rfl) (by kernel_rfl) ?hq21 ?hy21 (by assumption) ?hr21
    case hi21 => (simp only [List.getElem?_toArray, List.getElem?_cons_succ, List.getElem?_cons_zero]; rfl)
    case hy21 => ((refine .inl ⟨by rfl, ?_⟩); intro w hS; go_simp; (try with_reducible rfl))
    case hq21 => exact fun _ _ _ h => h
    (simp only [Act.put, List.setIfInBounds_toArray, List.set_cons_zero, List.set_cons_succ])
    refine wpAnyH_ready (rs := [5, 9]) (by kernel_rfl) (by simp) ?_
    refine AllReadyH.cons rfl (fun K hK => ?_) (AllReadyH.cons rfl (fun K hK => ?_) AllReadyH.nil)
    · go_simp
      go_wp2_with ((go_at_call 37; refine (CR.out _).mono ?_; rintro e w3 ⟨rfl, hb4⟩; have s3 := St.call hb4 hS.drew))
      refine hK.out _ _ (trivial) (fun hHeld => ?_)
      clear hK K
      (try simp only [Act.put, List.setIfInBounds_toArray, List.set_cons_zero, List.set_cons_succ])
      refine wpAnyH_take (i := 6) (oi := ?o22) (v := ?v22) ?hi22 (by kernel_rfl) (by kernel_rfl) (by kernel_rfl) ?hq22 ?hy22 (by assumption) ?hr22
      case hi22 => (simp only [List.getElem?_toArray, List.getElem?_cons_succ, List.getElem?_cons_zero]; rfl)
      case hy22 => ((refine .inl ⟨by rfl, ?_⟩); intro w hS; go_simp; (try with_reducible rfl))
      case hq22 => exact fun _ _ _ h => h
      (simp only [Act.put, List.setIfInBounds_toArray, List.set_cons_zero, List.set_cons_succ])
      refine wpAnyH_take (i := 7) (oi := ?o23) (v := ?v23) ?hi23 (by kernel_rfl) (by kernel_rfl) (by kernel_rfl) ?hq23 ?hy23 (by assumption) ?hr23
      case hi23 => (simp only [List.getElem?_toArray, List.getElem?_cons_succ, List.getElem?_cons_zero]; rfl)
      case hy23 => ((refine .inl ⟨by rfl, ?_⟩); intro w hS; go_simp; (try with_reducible rfl))
      case hq23 => exact fun _ _ _ h => h
      (simp only [Act.put, List.setIfInBounds_toArray, List.set_cons_zero, List.set_cons_succ])
      refine wpAnyH_take (i := 8) (oi := ?o24) (v := ?v24) ?hi24 (by kernel_rfl) (by kernel_rfl) (by kernel_rfl) ?hq24 ?hy24 (by assumption) ?hr24
      case hi24 => (simp only [List.getElem?_toArray, List.getElem?_cons_succ, List.getElem?_cons_zero]; rfl)
      case hy24 => ((refine .inl ⟨by rfl, ?_⟩); intro w hS; go_simp; (try with_reducible rfl))
      case hq24 => exact fun _ _ _ h => h
      (simp only [Act.put, List.setIfInBounds_toArray, List.set_cons_zero, List.set_cons_succ])
      refine wpAnyH_ready (rs := [9]) (by kernel_rfl) (by simp) ?_
      refine AllReadyH.cons rfl (fun K hK => ?_) AllReadyH.nil
      go_simp
      refine hK.out _ _ (trivial) (fun hHeld => ?_)
      clear hK K
      (try simp only [Act.put, List.setIfInBounds_toArray, List.set_cons_zero, List.set_cons_succ])
      refine wpAnyH_ready (rs := [10]) (by kernel_rfl) (by simp) ?_
      refine AllReadyH.cons rfl (fun K hK => ?_) AllReadyH.nil
      go_simp
      refine hK.out _ _ (trivial) (fun hHeld => ?_)
      clear hK K
      (try simp only [Act.put, List.setIfInBounds_toArray, List.set_cons_zero, List.set_cons_succ])
      refine wpAnyH_take (i := 11) (oi := ?o25) (v := ?v25) ?hi25 (by kernel_rfl) (by kernel_rfl) (by kernel_rfl) ?hq25 ?hy25 (by assumption) ?hr25
      case hi25 => (simp only [List.getElem?_toArray, List.getElem?_cons_succ, List.getElem?_cons_zero]; rfl)
      case hy25 => ((refine .inl ⟨by rfl, ?_⟩); intro w hS; go_simp; (try with_reducible rfl))
      case hq25 => exact fun _ _ _ h => h
      (simp only [Act.put, List.setIfInBounds_toArray, List.set_cons_zero, List.set_cons_succ])
      refine wpAnyH_done (by kernel_rfl) ?_ _
      go_wp2_with fail
      go_meet
      exact ⟨w3.heap.size, rfl, rfl, s3.new (g := w3.heap.size) rfl #[.int .i64 ip, .int .i64 im, .int .i64 ig, .int .i64 is, .int .i64 il, .bool ib] 34⟩
    · go_simp
      refine hK.out _ _ (trivial) (fun hHeld => ?_)
      clear hK K
      (try simp only [Act.put, List.setIfInBounds_toArray, List.set_cons_zero, List.set_cons_succ])
      refine wpAnyH_ready (rs := [5]) (by kernel_rfl) (by simp) ?_
      refine AllReadyH.cons rfl (fun K hK => ?_) AllReadyH.nil
      go_simp
      go_wp2_with ((go_at_call 37; refine (CR.out _).mono ?_; rintro e w3 ⟨rfl, hb4⟩; have s3 := St.call hb4 (hS.drew.new (g := w2.heap.size) rfl #[.int .i64 0, .int .i64 0, .int .i64 0, .int .i64 0, .int .i64 0, .bool false] 34); have c1 := (s3.at (i := 0) rfl).cell; have f1 := (s3.at (i := 0) rfl).frozen))
      refine hK.out _ _ (trivial) (fun hHeld => ?_)
      clear hK K
      (try simp only [Act.put, List.setIfInBounds_toArray, List.set_cons_zero, List.set_cons_succ])
      refine wpAnyH_take (i := 6) (oi := ?o26) (v := ?v26) ?hi26 (by kernel_rfl) (by kernel_rfl) (by kernel_rfl) ?hq26 ?hy26 (by assumption) ?hr26
      case hi26 => (simp only [List.getElem?_toArray, List.getElem?_cons_succ, List.getElem?_cons_zero]; rfl)
      case hy26 => ((refine .inl ⟨by rfl, ?_⟩); intro w hS; go_simp; (try with_reducible rfl))
      case hq26 => exact fun _ _ _ h => h
      (simp only [Act.put, List.setIfInBounds_toArray, List.set_cons_zero, List.set_cons_succ])
      refine wpAnyH_take (i := 7) (oi := ?o27) (v := ?v27) ?hi27 (by kernel_rfl) (by kernel_rfl) (by kernel_rfl) ?hq27 ?hy27 (by assumption) ?hr27
      case hi27 => (simp only [List.getElem?_toArray, List.getElem?_cons_succ, List.getElem?_cons_zero]; rfl)
      case hy27 => ((refine .inl ⟨by rfl, ?_⟩); intro w hS; go_simp; (try with_reducible rfl))
      case hq27 => exact fun _ _ _ h => h
      (simp only [Act.put, List.setIfInBounds_toArray, List.set_cons_zero, List.set_cons_succ])
      refine wpAnyH_take (i := 8) (oi := ?o28) (v := ?v28) ?hi28 (by kernel_rfl) (by kernel_rfl) (by kernel_rfl) ?hq28 ?hy28 (by assumption) ?hr28
      case hi28 => (simp only [List.getElem?_toArray, List.getElem?_cons_succ, List.getElem?_cons_zero]; rfl)
      case hy28 => ((refine .inl ⟨by rfl, ?_⟩); intro w hS; go_simp; (try with_reducible rfl))
      case hq28 => exact fun _ _ _ h => h
      (simp only [Act.put, List.setIfInBounds_toArray, List.set_cons_zero, List.set_cons_succ])
      refine wpAnyH_ready (rs := [10]) (by kernel_rfl) (by simp) ?_
      refine AllReadyH.cons rfl (fun K hK => ?_) AllReadyH.nil
      go_simp
      refine hK.out _ _ (trivial) (fun hHeld => ?_)
      clear hK K
      (try simp only [Act.put, List.setIfInBounds_toArray, List.set_cons_zero, List.set_cons_succ])
      refine wpAnyH_take (i := 11) (oi := ?o29) (v := ?v29) ?hi29 (by kernel_rfl) (by kernel_rfl) (by kernel_rfl) ?hq29 ?hy29 (by assumption) ?hr29
      case hi29 => (simp only [List.getElem?_toArray, List.getElem?_cons_succ, List.getElem?_cons_zero]; rfl)
      case hy29 => ((refine .inl ⟨by rfl, ?_⟩); intro w hS; go_simp; (try with_reducible rfl))
      case hq29 => exact fun _ _ _ h => h
      (simp only [Act.put, List.setIfInBounds_toArray, List.set_cons_zero, List.set_cons_succ])
      refine wpAnyH_done (by kernel_rfl) ?_ _
      go_wp2_with fail
      go_meet
      exact ⟨w2.heap.size, rfl, rfl, ((((((s3.set 0 rfl 0 (.int .i64 ip)).set 0 rfl 1 (.int .i64 im)).set 0 rfl 2 (.int .i64 ig)).set 0 rfl 3 (.int .i64 is)).set 0 rfl 4 (.int .i64 il)).set 0 rfl 5 (.bool ib))⟩
  case rest =>
    obtain ⟨g, rfl, rfl, h1⟩ := hcut
    have c0 := (h1.at (i := 0) rfl).cell
    by_cases he0 : ie = 0
    · subst he0
      have HD1 : Hid (decR s.data.toList = runL (fromE s.data.toList 2) ⟨(s[1].toNat : Int), 0, true, 0, [⟨ip, im, ig, is, il, ib⟩]⟩) := Lib.hid (by rw [HD.out, sec_img (by omega) (by omega) (by rw [HRD.out]), HRD.out]; rfl)
      have hs0 : 64 < s.size := by omega
      have B2 := Lib.hid (entB0 s 2 64 rfl hs0)
      clear HD HRD CR
      by_cases k0 : (s[64].toNat : Int) = 0
      · have HD2 : Hid (decR s.data.toList = (0, [⟨ip, im, ig, is, il, ib⟩])) := Lib.hid (by rw [HD1.out, hdr_zero (by omega) (by rw [B2.out]; exact k0)])
        clear HD1 B2
        go_wp2_with fail
        go_ret2
        exact DecRes.own HD2.out (h1.bel.alloc h1.bel.size _) (World.ownsRow_lit (base := 0) (e := 34) (size := 6) _ #[.int .i64 ip, .int .i64 im, .int .i64 ig, .int .i64 is, .int .i64 il, .bool ib] 1 (Nat.zero_le _) (by decide) rfl) rfl rfl
      · have k0' : ((s[64].toNat : Int) == 0) = false := beq_eq_false_iff_ne.2 k0
        have HZ : Hid (byteL (entAt s.data.toList 2) 0 = 0 → (0 : Int) ≠ 0) := Lib.hid (fun h => by rw [B2.out] at h; exact absurd h k0)
        clear k0 B2
        go_wp2_with fail
        have HO := World.ownsRow_lit (base := w.heap.size) (e := 34) (size := 6) wc #[.int .i64 ip, .int .i64 im, .int .i64 ig, .int .i64 is, .int .i64 il, .bool ib] 1 h1.bel.size (by decide) rfl
        have HB : Below w.heap.size w (wc.alloc (.cells #[.int .i64 ip, .int .i64 im, .int .i64 ig, .int .i64 is, .int .i64 il, .bool ib] 34)) := h1.bel.alloc h1.bel.size _
        go_loopw [6, 7] (fun v x wr => ∃ (k a n : Nat) (p hd : Int) (out : List Img) (A : Option Addr) (c : Nat), Hid (a = 32 * k ∧ n = out.length ∧ n ≤ k ∧ 2 ≤ k ∧ 0 ≤ hd) ∧ a ≤ 2048 ∧ n ≤ 64 ∧ x = .int .i64 a ∧ v = .slice A n c ∧ Hid (decR s.data.toList = runL (fromE s.data.toList k) ⟨p, 0, true, hd, out⟩) ∧
          Hid (byteL (entAt s.data.toList k) 0 = 0 → hd ≠ 0) ∧ wr.ownsRow w.heap.size 34 6 (.slice A n c) n (flat encI out) ∧ Below w.heap.size w wr) (fun _ x _ => 2048 - (intOf x).toNat)
        case atStart => exact ⟨2, 64, 1, _, 0, _, _, _, Lib.hid ⟨rfl, rfl, by omega, by omega, by omega⟩, by omega, by omega, rfl, rfl, HD1, HZ, HO, HB⟩
        case round =>
          obtain ⟨k, a, n, p, hd, out, A, c, HA, ha, hn, rfl, rfl, HD, HZ0, hown, hbel⟩ := hrel
          clear HD1 HZ HO HB c0 h1 k0'
          obtain ⟨wo, rfl⟩ : ∃ wo : World, wo = wr := ⟨_, rfl⟩
          by_cases hlt : a < 2048
          · have hk : k < 64 := by have := HA.out; omega
            have hltI : (a : Int) < 2048 := by omega
            have h0a : (0 : Int) ≤ (a : Int) := by omega
            have ha0 : a < s.size := by omega
            have ha1 : a + 1 < s.size := by have := HA.out; omega
            have B0 := Lib.hid (entB0 s k a HA.out.1 ha0)
            have B1 := Lib.hid (entB' s k a HA.out.1 1 (by omega) ha1)
            have b1l := s[a + 1].toNat_lt
            have e1 : ((a : Int) + 1).toNat = a + 1 := by omega
            have h1a : (0 : Int) ≤ (a : Int) + 1 := by omega
            have h1b : (a : Int) + 1 < 2048 := by have := HA.out; omega
            have ew1 : IntKind.i64.wrap ((a : Int) + 1) = (a : Int) + 1 := IntWalk.i64_in _ (by omega)
            have ew2 : IntKind.i64.wrap (s[a + 1].toNat : Int) = (s[a + 1].toNat : Int) := IntWalk.i64_in _ (by omega)
            by_cases kb : (s[a].toNat : Int) = 144 ∨ (s[a].toNat : Int) = 145
            · have hmo : ((s[a].toNat : Int) == 145) = !((s[a].toNat : Int) == 144) := by rcases kb with h | h <;> rw [h] <;> rfl
              have HMO := Lib.hid hmo
              have CP2 := Lib.hid (fun w => rplat_any (s[a + 1].toNat : Int) w)
              have CN := Lib.hid (fun w => rreadlittle_any s ((a : Int) + 2) 2 w (by omega))
              rw [rd_ent s k a HA.out.1 hk (by omega)] at CN
              have K0 : Hid (byteL (entAt s.data.toList k) 0 = 144 ∨ byteL (entAt s.data.toList k) 0 = 145) := Lib.hid (by rw [B0.out]; exact kb)
              have HSY : Hid (byteL (entAt s.data.toList k) 1 = (s[a + 1].toNat : Int)) := B1
              obtain ⟨sys, hsys⟩ : ∃ sys : Int, (s[a + 1].toNat : Int) = sys := ⟨_, rfl⟩
              have HSS := Lib.hid hsys
              clear hmo
              rcases kb with kb | kb
              · cases hpl : platB (s[a + 1].toNat : Int) with
                | false =>
                  rw [hpl] at CP2
                  have HDB : Hid (decR s.data.toList = (14, [])) := Lib.hid (by rw [HD.out, hdr_plat hk K0.out (by rw [HSY.out]; exact hpl)])
                  clear hpl HD HZ0 hsys
                  go_wp2_with fail
                  go_quiet (fail)
                  go_wp2_with fail
                  refine (CP2.out _).mono ?_
                  rintro e w5 ⟨rfl, hb5⟩
                  have hbel2 := (below_drewN hbel _).trans (hb5.mono (below_drewN hbel _).size)
                  go_wp2_with fail
                  go_ret2
                  exact DecRes.nil HDB.out hbel2 rfl
                | true =>
                  rw [hpl] at CP2
                  have HDB := Lib.hid (by have := hdr_ok (p := p) (hd := hd) (out := out) hk K0.out (by rw [HSY.out]; exact hpl); rw [← HD.out, HSY.out, B0.out, kb, hsys] at this; exact this)
                  rw [hsys] at CP2 ew2
                  have hn2 := rdL_bd2 (entAt s.data.toList k) 2
                  generalize rdL (entAt s.data.toList k) 2 2 = cn at *
                  obtain ⟨cn0, cn1⟩ := hn2
                  clear hpl HD HZ0
                  go_wp2_with fail
                  go_quiet (fail)
                  go_wp2_with fail
                  refine (CP2.out _).mono ?_
                  rintro e w5 ⟨rfl, hb5⟩
                  have hown5 := own_all (own_drewN hown _) hb5
                  have hbel5 := (below_drewN hbel _).trans (hb5.mono (below_drewN hbel _).size)
                  clear hb5 hown hbel ew1 h1a h1b e1
                  go_wp2_with fail
                  refine (CN.out _).mono ?_
                  rintro e w6 ⟨rfl, hb6⟩
                  have hown6 := own_all hown5 hb6
                  have hbel6 := hbel5.trans (hb6.mono hbel5.size)
                  clear hb6 hown5 hbel5
                  go_wp2_with fail
                  have HD0 : Hid (decR s.data.toList = secD s.data.toList (k + 1 + 0) sys true (hd + 1) (cn - ((0 : Nat) : Int)) out) := Lib.hid (by rw [HDB.out]; simp)
                  clear HDB
                  have hn65 : n + 1 ≤ 65 := by omega
                  go_loopw [6, 7, 12] (fun v x i wr => ∃ (j b m : Nat) (out1 : List Img) (A1 : Option Addr) (c1 : Nat), Hid (b = 32 * (k + 1 + j) ∧ m = out1.length ∧ m ≤ k + j) ∧ b ≤ 2048 ∧ m ≤ 64 ∧ (j : Int) ≤ cn ∧ x = .int .i64 b ∧ i = .int .i64 j ∧ v = .slice A1 m c1 ∧ Hid (decR s.data.toList = secD s.data.toList (k + 1 + j) sys true (hd + 1) (cn - (j : Int)) out1) ∧ wr.ownsRow w.heap.size 34 6 (.slice A1 m c1) m (flat encI out1) ∧ Below w.heap.size w wr) (fun _ _ i _ => (cn - intOf i).toNat)
                  case atStart => exact ⟨0, a + 32, n, out, A, c, Lib.hid ⟨by rw [HA.out.1]; omega, HA.out.2.1, by have := HA.out; omega⟩, by have := HA.out; omega, hn, by simpa using cn0, by go_num, rfl, rfl, HD0, hown6, hbel6⟩
                  case round =>
                    obtain ⟨j, b, m, out1, A1, c1, HJ, hb, hm, hj, rfl, rfl, rfl, HDJ, hownJ, hbelJ⟩ := hrel
                    clear hown6 hbel6 HD0 ew2 hn65
                    by_cases hjl : (j : Int) < cn
                    · by_cases hbl : b < 2048
                      · have hb32 : b + 32 ≤ 2048 := by have := HJ.out; omega
                        have hbI : (b : Int) < 2048 := by omega
                        have hb0 : (0 : Int) ≤ (b : Int) := by omega
                        have hb1 : (b : Int) + 32 ≤ 2048 := by omega
                        have hx : (s.extract b (b + 32)).size = 32 := by simp; omega
                        have CJ := Lib.hid (fun w => rread_any (s.extract b (b + 32)) hx sys w)
                        rw [ent_ext s (k + 1 + j) b HJ.out.1] at CJ
                        generalize hrj : rdR (entAt s.data.toList (k + 1 + j)) sys = rj at *
                        have HRJ := Lib.hid hrj
                        obtain ⟨⟨jp, jm, jg, js, jl, jb⟩, je⟩ := rj
                        dsimp only [imV] at CJ
                        clear hx hrj
                        have ew3 : IntKind.i64.wrap ((b : Int) + 32) = (b : Int) + 32 := IntWalk.i64_in _ (by omega)
                        have e3 : ((b : Int) + 32).toNat = b + 32 := by omega
                        have hb00 : (b : Int) ≤ (b : Int) + 32 := by omega
                        go_wp2_with fail
                        refine (CJ.out _).mono ?_
                        rintro e w8 ⟨rfl, hb8⟩
                        have hownK := (own_all hownJ hb8).alloc (.cells #[.int .i64 jp, .int .i64 jm, .int .i64 jg, .int .i64 js, .int .i64 jl, .bool jb] 34)
                        have hbelJ8 := hbelJ.trans (hb8.mono hbelJ.size)
                        have hbelK := hbelJ8.alloc hbelJ8.size (.cells #[.int .i64 jp, .int .i64 jm, .int .i64 jg, .int .i64 js, .int .i64 jl, .bool jb] 34)
                        clear hb8 hbelJ8 ew3 e3 hb00
                        by_cases hje : je = 0
                        · subst hje
                          have HDK : Hid (decR s.data.toList = secD s.data.toList (k + 1 + (j + 1)) sys true (hd + 1) (cn - ((j + 1 : Nat) : Int)) (out1 ++ [⟨jp, jm, jg, js, jl, jb⟩])) := Lib.hid (by rw [HDJ.out, sec_img (by omega) (by have := HJ.out; omega) (by rw [HRJ.out]), HRJ.out, show k + 1 + j + 1 = k + 1 + (j + 1) by omega, show cn - (j : Int) - 1 = cn - ((j + 1 : Nat) : Int) by omega])
                          have hm1 : m + 1 ≤ 64 := by have := HJ.out; omega
                          clear HDJ CJ HRJ
                          go_wp2_with (at_builtin; refine wpList_appNH hownK (World.size_alloc _ _) info_imgI Try.underlying22 rfl (by decide) (us := [.int .i64 jp, .int .i64 jm, .int .i64 jg, .int .i64 js, .int .i64 jl, .bool jb]) rfl (by unfold maxLen; omega) (by omega) hbelK.size (by intro u hu; simp only [List.mem_cons, List.not_mem_nil, or_false] at hu; rcases hu with rfl | rfl | rfl | rfl | rfl | rfl <;> rfl) rfl rfl (by rfl) (by rfl) ?_; intro v1 w7 hown7 hb7 _; obtain ⟨g7, cap7, hv7, _, _, _⟩ := own_form hown7 (Nat.succ_pos _); subst hv7)
                          go_roundw
                          case rel => exact ⟨j + 1, b + 32, m + 1, _, _, _, Lib.hid ⟨by have := HJ.out; omega, by rw [List.length_append, ← HJ.out.2.1]; rfl, by have := HJ.out; omega⟩, hb32, hm1, by omega, by go_num, by go_num, rfl, HDK, by rw [flat_snoc]; exact hown7, hbelK.trans hb7⟩
                          case measure => simp [intOf]; omega
                        · have he1 : (je != 0) = true := by rw [bne_iff_ne]; exact hje
                          have HE := Lib.hid hje
                          clear hje
                          go_wp2_with fail
                          go_ret2
                          refine DecRes.nil (c := je) ?_ hbelK rfl
                          rw [HDJ.out, sec_bad (by omega) (by have := HJ.out; omega) (by rw [HRJ.out]; exact HE.out), HRJ.out]
                      · have hbI : (2048 : Int) ≤ (b : Int) := by omega
                        have HDK : Hid (decR s.data.toList = (10, [])) := Lib.hid (by rw [HDJ.out, sec_over (by omega) (by have := HJ.out; omega)])
                        clear HDJ
                        go_wp2_with fail
                        go_ret2
                        exact DecRes.nil HDK.out hbelJ rfl
                    · have HDK : Hid (decR s.data.toList = runL (fromE s.data.toList (k + 1 + j)) ⟨sys, 0, true, hd + 1, out1⟩) := Lib.hid (by rw [HDJ.out, show cn - (j : Int) = 0 by omega, sec_more])
                      clear HDJ
                      have hbk : a < b := by have := HJ.out; have := HA.out; omega
                      go_wp2_with fail
                      go_roundw
                      case rel => exact ⟨k + 1 + j, b, m, sys, hd + 1, out1, A1, c1, Lib.hid ⟨HJ.out.1, HJ.out.2.1, by have := HJ.out; omega, by have := HA.out; omega, by have := HA.out; omega⟩, hb, hm, rfl, rfl, HDK, Lib.hid (fun _ => by have := HA.out; omega), hownJ, hbelJ⟩
                      case measure => simp [intOf]; omega
              · cases hpl : platB (s[a + 1].toNat : Int) with
                | false =>
                  rw [hpl] at CP2
                  have HDB : Hid (decR s.data.toList = (14, [])) := Lib.hid (by rw [HD.out, hdr_plat hk K0.out (by rw [HSY.out]; exact hpl)])
                  clear hpl HD HZ0 hsys
                  go_wp2_with fail
                  go_quiet (fail)
                  go_wp2_with fail
                  refine (CP2.out _).mono ?_
                  rintro e w5 ⟨rfl, hb5⟩
                  have hbel2 := (below_drewN hbel _).trans (hb5.mono (below_drewN hbel _).size)
                  go_wp2_with fail
                  go_ret2
                  exact DecRes.nil HDB.out hbel2 rfl
                | true =>
                  rw [hpl] at CP2
                  have HDB := Lib.hid (by have := hdr_ok (p := p) (hd := hd) (out := out) hk K0.out (by rw [HSY.out]; exact hpl); rw [← HD.out, HSY.out, B0.out, kb, hsys] at this; exact this)
                  rw [hsys] at CP2 ew2
                  have hn2 := rdL_bd2 (entAt s.data.toList k) 2
                  generalize rdL (entAt s.data.toList k) 2 2 = cn at *
                  obtain ⟨cn0, cn1⟩ := hn2
                  clear hpl HD HZ0
                  go_wp2_with fail
                  go_quiet (fail)
                  go_wp2_with fail
                  refine (CP2.out _).mono ?_
                  rintro e w5 ⟨rfl, hb5⟩
                  have hown5 := own_all (own_drewN hown _) hb5
                  have hbel5 := (below_drewN hbel _).trans (hb5.mono (below_drewN hbel _).size)
                  clear hb5 hown hbel ew1 h1a h1b e1
                  go_wp2_with fail
                  refine (CN.out _).mono ?_
                  rintro e w6 ⟨rfl, hb6⟩
                  have hown6 := own_all hown5 hb6
                  have hbel6 := hbel5.trans (hb6.mono hbel5.size)
                  clear hb6 hown5 hbel5
                  go_wp2_with fail
                  have HD0 : Hid (decR s.data.toList = secD s.data.toList (k + 1 + 0) sys false (hd + 1) (cn - ((0 : Nat) : Int)) out) := Lib.hid (by rw [HDB.out]; simp)
                  clear HDB
                  have hn65 : n + 1 ≤ 65 := by omega
                  go_loopw [6, 7, 12] (fun v x i wr => ∃ (j b m : Nat) (out1 : List Img) (A1 : Option Addr) (c1 : Nat), Hid (b = 32 * (k + 1 + j) ∧ m = out1.length ∧ m ≤ k + j) ∧ b ≤ 2048 ∧ m ≤ 64 ∧ (j : Int) ≤ cn ∧ x = .int .i64 b ∧ i = .int .i64 j ∧ v = .slice A1 m c1 ∧ Hid (decR s.data.toList = secD s.data.toList (k + 1 + j) sys false (hd + 1) (cn - (j : Int)) out1) ∧ wr.ownsRow w.heap.size 34 6 (.slice A1 m c1) m (flat encI out1) ∧ Below w.heap.size w wr) (fun _ _ i _ => (cn - intOf i).toNat)
                  case atStart => exact ⟨0, a + 32, n, out, A, c, Lib.hid ⟨by rw [HA.out.1]; omega, HA.out.2.1, by have := HA.out; omega⟩, by have := HA.out; omega, hn, by simpa using cn0, by go_num, rfl, rfl, HD0, hown6, hbel6⟩
                  case round =>
                    obtain ⟨j, b, m, out1, A1, c1, HJ, hb, hm, hj, rfl, rfl, rfl, HDJ, hownJ, hbelJ⟩ := hrel
                    clear hown6 hbel6 HD0 ew2 hn65
                    by_cases hjl : (j : Int) < cn
                    · by_cases hbl : b < 2048
                      · have hb32 : b + 32 ≤ 2048 := by have := HJ.out; omega
                        have hbI : (b : Int) < 2048 := by omega
                        have hb0 : (0 : Int) ≤ (b : Int) := by omega
                        have hb1 : (b : Int) + 32 ≤ 2048 := by omega
                        have hx : (s.extract b (b + 32)).size = 32 := by simp; omega
                        have CJ := Lib.hid (fun w => rread_any (s.extract b (b + 32)) hx sys w)
                        rw [ent_ext s (k + 1 + j) b HJ.out.1] at CJ
                        generalize hrj : rdR (entAt s.data.toList (k + 1 + j)) sys = rj at *
                        have HRJ := Lib.hid hrj
                        obtain ⟨⟨jp, jm, jg, js, jl, jb⟩, je⟩ := rj
                        dsimp only [imV] at CJ
                        clear hx hrj
                        have ew3 : IntKind.i64.wrap ((b : Int) + 32) = (b : Int) + 32 := IntWalk.i64_in _ (by omega)
                        have e3 : ((b : Int) + 32).toNat = b + 32 := by omega
                        have hb00 : (b : Int) ≤ (b : Int) + 32 := by omega
                        go_wp2_with fail
                        refine (CJ.out _).mono ?_
                        rintro e w8 ⟨rfl, hb8⟩
                        have hownK := (own_all hownJ hb8).alloc (.cells #[.int .i64 jp, .int .i64 jm, .int .i64 jg, .int .i64 js, .int .i64 jl, .bool jb] 34)
                        have hbelJ8 := hbelJ.trans (hb8.mono hbelJ.size)
                        have hbelK := hbelJ8.alloc hbelJ8.size (.cells #[.int .i64 jp, .int .i64 jm, .int .i64 jg, .int .i64 js, .int .i64 jl, .bool jb] 34)
                        clear hb8 hbelJ8 ew3 e3 hb00
                        by_cases hje : je = 0
                        · subst hje
                          have HDK : Hid (decR s.data.toList = secD s.data.toList (k + 1 + (j + 1)) sys false (hd + 1) (cn - ((j + 1 : Nat) : Int)) (out1 ++ [⟨jp, jm, jg, js, jl, jb⟩])) := Lib.hid (by rw [HDJ.out, sec_img (by omega) (by have := HJ.out; omega) (by rw [HRJ.out]), HRJ.out, show k + 1 + j + 1 = k + 1 + (j + 1) by omega, show cn - (j : Int) - 1 = cn - ((j + 1 : Nat) : Int) by omega])
                          have hm1 : m + 1 ≤ 64 := by have := HJ.out; omega
                          clear HDJ CJ HRJ
                          go_wp2_with (at_builtin; refine wpList_appNH hownK (World.size_alloc _ _) info_imgI Try.underlying22 rfl (by decide) (us := [.int .i64 jp, .int .i64 jm, .int .i64 jg, .int .i64 js, .int .i64 jl, .bool jb]) rfl (by unfold maxLen; omega) (by omega) hbelK.size (by intro u hu; simp only [List.mem_cons, List.not_mem_nil, or_false] at hu; rcases hu with rfl | rfl | rfl | rfl | rfl | rfl <;> rfl) rfl rfl (by rfl) (by rfl) ?_; intro v1 w7 hown7 hb7 _; obtain ⟨g7, cap7, hv7, _, _, _⟩ := own_form hown7 (Nat.succ_pos _); subst hv7)
                          go_roundw
                          case rel => exact ⟨j + 1, b + 32, m + 1, _, _, _, Lib.hid ⟨by have := HJ.out; omega, by rw [List.length_append, ← HJ.out.2.1]; rfl, by have := HJ.out; omega⟩, hb32, hm1, by omega, by go_num, by go_num, rfl, HDK, by rw [flat_snoc]; exact hown7, hbelK.trans hb7⟩
                          case measure => simp [intOf]; omega
                        · have he1 : (je != 0) = true := by rw [bne_iff_ne]; exact hje
                          have HE := Lib.hid hje
                          clear hje
                          go_wp2_with fail
                          go_ret2
                          refine DecRes.nil (c := je) ?_ hbelK rfl
                          rw [HDJ.out, sec_bad (by omega) (by have := HJ.out; omega) (by rw [HRJ.out]; exact HE.out), HRJ.out]
                      · have hbI : (2048 : Int) ≤ (b : Int) := by omega
                        have HDK : Hid (decR s.data.toList = (10, [])) := Lib.hid (by rw [HDJ.out, sec_over (by omega) (by have := HJ.out; omega)])
                        clear HDJ
                        go_wp2_with fail
                        go_ret2
                        exact DecRes.nil HDK.out hbelJ rfl
                    · have HDK : Hid (decR s.data.toList = (0, out1)) := Lib.hid (by rw [HDJ.out, show cn - (j : Int) = 0 by omega, sec_done])
                      clear HDJ
                      go_wp2_with fail
                      go_ret2
                      exact DecRes.own HDK.out hbelJ hownJ HJ.out.2.1 rfl
            · have k1 : ((s[a].toNat : Int) != 144) = true := by rw [bne_iff_ne]; omega
              have k2 : ((s[a].toNat : Int) != 145) = true := by rw [bne_iff_ne]; omega
              have HDB : Hid (decR s.data.toList = (10, [])) := Lib.hid (by rw [HD.out, hdr_bad hk (by intro h; exact HZ0.out h.1 h.2) (by rw [B0.out]; omega) (by rw [B0.out]; omega)])
              clear kb HD HZ0 B0 B1
              go_wp2_with fail
              go_quiet (fail)
              go_wp2_with fail
              go_ret2
              exact DecRes.nil HDB.out (below_drewN hbel _) rfl
          · have hge : ¬ (a : Int) < 2048 := by omega
            have HDB : Hid (decR s.data.toList = (10, [])) := Lib.hid (by rw [HD.out, hdr_over (by have := HA.out; omega)])
            clear HD HZ0
            go_wp2_with fail
            go_ret2
            exact DecRes.nil HDB.out hbel rfl
    · have he1 : (ie != 0) = true := by rw [bne_iff_ne]; exact he0
      have HE := Lib.hid he0
      clear he0
      go_wp2_with fail
      go_ret2
      refine DecRes.nil (c := ie) ?_ h1.bel rfl
      rw [HD.out, sec_bad (by omega) (by omega) (by rw [HRD.out]; exact HE.out), HRD.out]
theorem rdecode_any (s : ByteArray) (w : World) : Calls Try.prog 14 #[.string s] w (DecRes s w) := by
  by_cases hs : s.size = 2048
  · cases hk : keyOk (entAt s.data.toList 0) with
    | false => exact rdecode_key s w hs hk
    | true =>
      cases hp : platB (byteL (entAt s.data.toList 0) 1) with
      | false => exact rdecode_plat s w hs hk hp
      | true => exact rdecode_go s w hs hk hp
  · exact rdecode_size s w hs
end Go.Proofs.Ytjlppndlgdgekaa
