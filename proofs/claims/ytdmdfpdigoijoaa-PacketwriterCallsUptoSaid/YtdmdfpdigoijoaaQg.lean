import Derived.Test.YtdmdfpdigoijoaaQe
/-
  Chapter 52: Flush of the reference: the walk.
-/
namespace Go.Proofs.Ytdmdfpdigoijoaa
open Go.RowKit
set_option linter.unusedVariables false

/-- What Flush answers. -/
def RFlush (st ba : Int) (Al : Option Addr) (cl : Nat) (l : List Pend) (ctl : ByteArray) (w : World) (e : Ending) (w' : World) : Prop :=
  Below w.heap.size w w' ∧ (((flE st ba l ctl ≠ 0 ∨ (l = [] ∧ ctl.toList = [])) ∧ e = .returned (.tuple #[rwV st ba Al l.length cl, .slice none 0 0, .int .i64 (flE st ba l ctl)])) ∨
    (flE st ba l ctl = 0 ∧ ¬ (l = [] ∧ ctl.toList = []) ∧ ∃ (m : Nat) (ws : List Wr) (A : Option Addr) (c : Nat), (8 * m : Int) = ctlL st ba l + 1 - ba ∧ ws.length = m ∧ ws.map wcore = (List.range m).map (fcore st ba l ctl m) ∧
      e = .returned (.tuple #[rwV st (ctlL st ba l + 1) none 0 0, .slice A m c, .int .i64 0]) ∧ WsAt w' w'.heap.size A ws))
theorem flE_arg {st ba : Int} {l : List Pend} {ctl : ByteArray} (h : ctl.toList ≠ [] ∧ ctl.size ≠ 2048) : flE st ba l ctl = 1 := by unfold flE; rw [if_pos h]

set_option maxRecDepth 100000 in
set_option maxHeartbeats 8000000 in
theorem rflush_any (st ba : Int) (Al : Option Addr) (cl : Nat) (l : List Pend) (ctl : ByteArray) (w : World) (h : PnAt w w.heap.size Al l) (hk : Wok st ba l) :
    Calls Try.prog 50 #[rwV st ba Al l.length cl, .string ctl] w (RFlush st ba Al cl l ctl w) := by
  have HP := Lib.hid h
  have HK := Lib.hid hk
  have hl : l.length ≤ 100000 := by have := hk.len; omega
  have hst := hk.st0
  have hsb := hk.stba
  have hla := hk.last
  have hct := hk.ctl
  have COp := Lib.hid (fun w' (hb : Below w.heap.size w w') => ropen_any st ba Al cl l w' ((h.below hb).mono hb.size) hl)
  have CLa := Lib.hid (fun w' (hb : Below w.heap.size w w') => rlast_any st ba Al cl l w' ((h.below hb).mono hb.size) (by omega))
  have CE := Lib.hid (fun w' => rend_any st (lastL ba l) w' hst (by omega) (by omega))
  have CB := Lib.hid (fun a w' (hb : Below w.heap.size w w') => rblock_any st ba Al cl l a w' ((h.below hb).mono hb.size) hl hk.inc)
  have HEN : Hid (endL st (lastL ba l) = ctlL st ba l + 1) := Lib.hid (by unfold ctlL endL; omega)
  rw [HEN.out] at CE
  unfold OpenRes at COp
  obtain ⟨n, hn⟩ : ∃ n, l.length = n := ⟨_, rfl⟩
  have HN := Lib.hid hn
  rw [hn] at hl COp CLa CB ⊢
  unfold rwV at COp CLa CB ⊢
  have HB0 := Lib.hid (((Below.refl w.heap.size w).alloc (Nat.le_refl _) (.cells #[.int .i64 st, .int .i64 ba, .slice Al n cl] 76)).alloc (by simp) (.cells #[.int .i64 0, .int .i64 0, .slice none 0 0] 76))
  have HRB := Lib.hid ((RowAt.new w 76 #[.int .i64 st, .int .i64 ba, .slice Al n cl]).alloc (.cells #[.int .i64 0, .int .i64 0, .slice none 0 0] 76))
  have HRZ := Lib.hid (RowAt.new (w.alloc (.cells #[.int .i64 st, .int .i64 ba, .slice Al n cl] 76)) 76 #[.int .i64 0, .int .i64 0, .slice none 0 0])
  have hgz1 : (w.alloc (.cells #[.int .i64 st, .int .i64 ba, .slice Al n cl] 76)).heap.size = w.heap.size + 1 := by simp
  rw [hgz1] at HRZ
  clear h hn hgz1 hk HEN hla
  have hgb := HRB.out.lt
  have hgz := HRZ.out.lt
  -- a return that hands the writer back
  have HBACK : Hid (∀ (wr : World) (E : Int), Below ((w.alloc (.cells #[.int .i64 st, .int .i64 ba, .slice Al n cl] 76)).alloc (.cells #[.int .i64 0, .int .i64 0, .slice none 0 0] 76)).heap.size ((w.alloc (.cells #[.int .i64 st, .int .i64 ba, .slice Al n cl] 76)).alloc (.cells #[.int .i64 0, .int .i64 0, .slice none 0 0] 76)) wr → flE st ba l ctl = E → (E ≠ 0 ∨ (l = [] ∧ ctl.toList = [])) →
      RFlush st ba Al cl l ctl w (.returned (.tuple #[rwV st ba Al n cl, .slice none 0 0, .int .i64 E])) (((wr.setCell ⟨w.heap.size + 1, 0, none⟩ (.int .i64 st)).setCell ⟨w.heap.size + 1, 1, none⟩ (.int .i64 ba)).setCell ⟨w.heap.size + 1, 2, none⟩ (.slice Al n cl))) := Lib.hid (fun wr E hb hE hE0 => by
    have hbz := below_set3 (HB0.out.trans (hb.mono HB0.out.size)) (g := w.heap.size + 1) (by omega) (.int .i64 st) (.int .i64 ba) (.slice Al n cl)
    refine ⟨hbz, .inl ⟨by rw [hE]; exact hE0, by rw [HN.out, hE]⟩⟩)
  by_cases harg : ctl.toList ≠ [] ∧ ctl.size ≠ 2048
  · have hcB : ctl.toList.isEmpty = false := isE_false harg.1
    have hsB : ((ctl.size : Int) != 2048) = true := by rw [bne_iff_ne]; have := harg.2; omega
    have HE := Lib.hid (flE_arg (st := st) (ba := ba) (l := l) harg)
    clear harg
    go_enter Try.func50, Try.ntmps50
    go_upto_region 1 with fail
    generalize (w.alloc (.cells #[.int .i64 st, .int .i64 ba, .slice Al n cl] 76)).alloc (.cells #[.int .i64 0, .int .i64 0, .slice none 0 0] 76) = w1 at *
    have qb := HRB.out.cell
    have qz := HRZ.out.cell
    have fz := HRZ.out.frozen
    go_wp2_with fail
    have qr := (((HRZ.out.set_ 0 (.int .i64 st)).set_ 1 (.int .i64 ba)).set_ 2 (.slice Al n cl)).cell
    exact bodyPost_ret (v := .tuple #[rwV st ba Al n cl, .slice none 0 0, .int .i64 1]) (by simp [rwV, results, Try.results50, go_sem, qr]) rfl (HBACK.out _ 1 (Below.refl _ _) HE.out (.inl (by decide)))
  · have hok : ctl.toList = [] ∨ (ctl.toList ≠ [] ∧ ctl.size = 2048) := by
      by_cases h1 : ctl.toList = []
      · exact .inl h1
      · exact .inr ⟨h1, Classical.byContradiction fun h2 => harg ⟨h1, h2⟩⟩
    have HARG := Lib.hid harg
    clear harg
    go_enter Try.func50, Try.ntmps50
    go_upto_region 1 with fail
    generalize (w.alloc (.cells #[.int .i64 st, .int .i64 ba, .slice Al n cl] 76)).alloc (.cells #[.int .i64 0, .int .i64 0, .slice none 0 0] 76) = w1 at *
    have qb := HRB.out.cell
    go_cut [21] from 15 to 20 (fun x wx => x = .bool false ∧ w1 = wx)
    case first =>
      rcases hok with hc | ⟨hc, hs⟩
      · have hcB : ctl.toList.isEmpty = true := by rw [hc]; rfl
        go_wp2_with fail
        go_meet
        exact ⟨rfl, rfl⟩
      · have hcB : ctl.toList.isEmpty = false := isE_false hc
        have hsB : ((ctl.size : Int) != 2048) = false := by rw [bne_eq_false_iff_eq]; omega
        go_wp2_with fail
        go_meet
        exact ⟨rfl, rfl⟩
    case rest =>
      obtain ⟨rfl, rfl⟩ := hcut
      go_wp2_with fail
      refine (COp.out _ HB0.out).mono ?_
      rintro e w2 ⟨hb2, Ao, co, rfl, hown2⟩
      have HB2 := Lib.hid hb2
      have HRB2 := Lib.hid (HRB.out.below hb2 hgb)
      have HRZ2 := Lib.hid (HRZ.out.below hb2 hgz)
      clear qb COp hown2 hb2
      by_cases hop : openL l = []
      · have hoB : ¬ (0 : Int) < ((openL l).length : Int) := by rw [hop]; simp
        have HOP := Lib.hid hop
        have HLO : Hid ((openL l).length = 0) := Lib.hid (by rw [hop]; rfl)
        rw [HLO.out]
        clear hop hoB
        have hgb2 := HRB2.out.lt
        have hgz2 := HRZ2.out.lt
        obtain ⟨E, hE⟩ : ∃ E, ctlL st ba l = E := ⟨_, rfl⟩
        have HCE := Lib.hid hE
        rw [hE] at CE hct
        clear hE
        by_cases hz : l = [] ∧ ctl.toList = []
        · have HE : Hid (flE st ba l ctl = 0) := Lib.hid (by unfold flE; rw [if_neg HARG.out, if_neg (by rw [HOP.out]; simp), if_pos hz])
          obtain rfl : n = 0 := by rw [← HN.out, hz.1]; rfl
          have hcB : ctl.toList.isEmpty = true := by rw [hz.2]; rfl
          have HZ := Lib.hid hz
          have qb := HRB2.out.cell
          have qz := HRZ2.out.cell
          have fz := HRZ2.out.frozen
          clear hz hct
          go_wp2_with fail
          have qr := (((HRZ2.out.set_ 0 (.int .i64 st)).set_ 1 (.int .i64 ba)).set_ 2 (.slice Al 0 cl)).cell
          exact bodyPost_ret (v := .tuple #[rwV st ba Al 0 cl, .slice none 0 0, .int .i64 0]) (by simp [rwV, results, Try.results50, go_sem, qr]) rfl (HBACK.out _ 0 HB2.out HE.out (.inr HZ.out))
        · have HNZ := Lib.hid hz
          have hz2 : (n = 0 ∧ ctl.toList ≠ []) ∨ n ≠ 0 := by
            by_cases h0 : n = 0
            · left
              refine ⟨h0, fun hc => hz ⟨List.eq_nil_of_length_eq_zero (by rw [HN.out]; exact h0), hc⟩⟩
            · exact .inr h0
          have qb := HRB2.out.cell
          clear hz
          go_upto_region 5 with fail
          go_cut [35] from 28 to 34 (fun x wx => x = .bool false ∧ w2 = wx)
          case first =>
            rcases hz2 with ⟨h0, hc⟩ | h0
            · have hcB : ctl.toList.isEmpty = false := isE_false hc
              have h0B : ((n : Int) == 0) = true := by rw [beq_iff_eq]; omega
              go_wp2_with fail
              go_meet
              exact ⟨rfl, rfl⟩
            · have h0B : ((n : Int) == 0) = false := by rw [beq_eq_false_iff_ne]; omega
              go_wp2_with fail
              go_meet
              exact ⟨rfl, rfl⟩
          case rest =>
            obtain ⟨rfl, rfl⟩ := hcut
            go_upto_region 7 with fail
            go_cut [7] from 37 to 41 (fun x wx => ∃ w3, w3 = wx ∧ x = .int .i64 (E + 1) ∧ Below w2.heap.size w2 w3)
            case first =>
              refine wp_region_held_drew (S := (fun w' => Below w2.heap.size w2 w')) (by kernel_rfl) ((Below.refl _ _).drew) (fun hHeld => ?_)
              generalize w2.drew = wd at *
              refine wpAnyH_take (i := 0) (oi := ?o1) (v := ?v1) ?hi1 (by kernel_rfl) (by kernel_rfl) (by kernel_rfl) ?hq1 ?hy1 (by assumption) ?hr1
              case hi1 => (simp only [List.getElem?_toArray, List.getElem?_cons_zero]; rfl)
              case hy1 => ((refine .inl ⟨by rfl, ?_⟩); intro w hS; go_simp; (try with_reducible rfl))
              case hq1 => exact fun _ _ _ h => h
              (simp only [Act.put, List.setIfInBounds_toArray, List.set_cons_zero, List.set_cons_succ])
              refine wpAnyH_take (i := 1) (oi := ?o2) (v := ?v2) ?hi2 (by kernel_rfl) (by kernel_rfl) (by kernel_rfl) ?hq2 ?hy2 (by assumption) ?hr2
              case hi2 => (simp only [List.getElem?_toArray, List.getElem?_cons_succ, List.getElem?_cons_zero]; rfl)
              case hy2 => ((refine .inl ⟨by rfl, ?_⟩); intro w hS; have q := (HRB2.out.below hS hgb2).cell; go_simp; (try with_reducible rfl))
              case hq2 => exact fun _ _ _ h => h
              (simp only [Act.put, List.setIfInBounds_toArray, List.set_cons_zero, List.set_cons_succ])
              refine wpAnyH_take (i := 2) (oi := ?o3) (v := ?v3) ?hi3 (by kernel_rfl) (by kernel_rfl) (by kernel_rfl) ?hq3 ?hy3 (by assumption) ?hr3
              case hi3 => (simp only [List.getElem?_toArray, List.getElem?_cons_succ, List.getElem?_cons_zero]; rfl)
              case hy3 => ((refine .inl ⟨by rfl, ?_⟩); intro w hS; have q := (HRB2.out.below hS hgb2).cell; go_simp; (try with_reducible rfl))
              case hq3 => exact fun _ _ _ h => h
              (simp only [Act.put, List.setIfInBounds_toArray, List.set_cons_zero, List.set_cons_succ])
              refine wpAnyH_ready (rs := [3]) (by kernel_rfl) (by simp) ?_
              refine AllReadyH.cons rfl (fun K hK => ?_) AllReadyH.nil
              go_simp
              go_wp2_with (((with_reducible refine (CLa.out _ (HB0.out.trans ((HB2.out.trans (hHeld.mono HB2.out.size)).mono HB0.out.size))).mono ?_); rintro e w3 ⟨rfl, hb3⟩))
              refine hK.out _ _ (hHeld.trans (hb3.mono hHeld.size)) (fun hHeld1 => ?_)
              clear hK K
              (try simp only [Act.put, List.setIfInBounds_toArray, List.set_cons_zero, List.set_cons_succ])
              clear hb3
              clear hHeld; have hHeld := hHeld1; clear hHeld1
              refine wpAnyH_ready (rs := [4]) (by kernel_rfl) (by simp) ?_
              refine AllReadyH.cons rfl (fun K hK => ?_) AllReadyH.nil
              go_simp
              go_wp2_with (((with_reducible refine (CE.out _).mono ?_); rintro e w4 ⟨rfl, rfl⟩))
              refine hK.out _ _ (hHeld) (fun hHeld1 => ?_)
              clear hK K
              (try simp only [Act.put, List.setIfInBounds_toArray, List.set_cons_zero, List.set_cons_succ])
              clear hHeld; have hHeld := hHeld1; clear hHeld1
              refine wpAnyH_take (i := 5) (oi := ?o4) (v := ?v4) ?hi4 (by kernel_rfl) (by kernel_rfl) (by kernel_rfl) ?hq4 ?hy4 (by assumption) ?hr4
              case hi4 => (simp only [List.getElem?_toArray, List.getElem?_cons_succ, List.getElem?_cons_zero]; rfl)
              case hy4 => ((refine .inl ⟨by rfl, ?_⟩); intro w hS; go_simp; (try with_reducible rfl))
              case hq4 => exact fun _ _ _ h => h
              (simp only [Act.put, List.setIfInBounds_toArray, List.set_cons_zero, List.set_cons_succ])
              refine wpAnyH_done (by kernel_rfl) ?_ _
              go_wp2_with fail
              go_meet
              exact ⟨_, rfl, rfl, hHeld⟩
            case rest =>
              obtain ⟨w3, rfl, rfl, hb3⟩ := hcut
              have HB3 := Lib.hid (HB2.out.trans (hb3.mono HB2.out.size))
              have HRB3 := Lib.hid (HRB2.out.below hb3 hgb2)
              have HRZ3 := Lib.hid (HRZ2.out.below hb3 hgz2)
              have hgb3 := HRB3.out.lt
              have hgz3 := HRZ3.out.lt
              clear qb hb3 HRB2 HRZ2 CLa CE
              by_cases h4 : 4096 < E + 1
              · have HE : Hid (flE st ba l ctl = 12) := Lib.hid (by unfold flE; rw [if_neg HARG.out, if_neg (by rw [HOP.out]; simp), if_neg HNZ.out, HCE.out, if_pos h4])
                have qb := HRB3.out.cell
                have qz := HRZ3.out.cell
                have fz := HRZ3.out.frozen
                go_wp2_with fail
                have qr := (((HRZ3.out.set_ 0 (.int .i64 st)).set_ 1 (.int .i64 ba)).set_ 2 (.slice Al n cl)).cell
                exact bodyPost_ret (v := .tuple #[rwV st ba Al n cl, .slice none 0 0, .int .i64 12]) (by simp [rwV, results, Try.results50, go_sem, qr]) rfl (HBACK.out _ 12 HB3.out HE.out (.inl (by decide)))
              · have HE : Hid (flE st ba l ctl = 0) := Lib.hid (by unfold flE; rw [if_neg HARG.out, if_neg (by rw [HOP.out]; simp), if_neg HNZ.out, HCE.out, if_neg h4])
                obtain ⟨m, hm8⟩ : ∃ m : Nat, (8 * m : Int) = E + 1 - ba := ⟨((E + 1 - ba) / 8).toNat, by have := HK.out.b8; omega⟩
                have hm0 : 0 < m := by omega
                have hm5 : m ≤ 600 := by omega
                have HB3W := Lib.hid (HB0.out.trans (HB3.out.mono HB0.out.size))
                have CB3 := Lib.hid (fun a w' (hb : Below w3.heap.size w3 w') => CB.out a w' (HB3W.out.trans (hb.mono HB3W.out.size)))
                have qb := HRB3.out.cell
                clear CB HBACK
                go_wp2_with fail
                refine (rzero_any _).mono ?_
                rintro e _ ⟨rfl, rfl⟩
                go_wp2_with fail
                go_loopw [9, 10] (fun v av wr => ∃ (j : Nat) (ws : List Wr) (A2 : Option Addr) (c2 : Nat), j ≤ m ∧ Hid (ws.length = j ∧ ws.map wcore = (List.range j).map (fcore st ba l ctl m)) ∧ av = .int .i64 (ba + 8 * (j : Int)) ∧ v = .slice A2 j c2 ∧ wr.ownsRow w3.heap.size 49 4 (.slice A2 j c2) j (flat encW ws) ∧ Hid (∀ x ∈ ws, wr.ownsRow w3.heap.size 9 1 (.slice x.A x.bl.length x.cap) x.bl.length (strV x.bl)) ∧ Below w3.heap.size w3 wr) (fun _ av _ => (5000 - intOf av).toNat)
                case atStart => exact ⟨0, [], none, 0, by omega, Lib.hid ⟨rfl, rfl⟩, by simp, rfl, World.ownsRow_nil _ _ _ _, Lib.hid (fun x hx => (List.not_mem_nil hx).elim), Below.refl _ _⟩
                case round =>
                  clear qb
                  obtain ⟨wo, rfl⟩ : ∃ wo : World, wo = wr := ⟨_, rfl⟩
                  obtain ⟨j, ws, A2, c2, hj, HWS, rfl, rfl, hown, HX, hbel⟩ := hrel
                  have HOW := Lib.hid hown
                  have HBJ := Lib.hid hbel
                  have hszo := hbel.size
                  clear hown hbel
                  obtain ⟨p, hp⟩ : ∃ p : Int, ba + 8 * (j : Int) = p := ⟨_, rfl⟩
                  have HPP := Lib.hid hp
                  rw [hp]
                  have hp1 : ba ≤ p := by omega
                  have hp2 : p ≤ 5000 := by omega
                  by_cases hlt : j < m
                  · have hpI : p < E + 1 := by omega
                    have hp3 : p + 8 ≤ E + 1 := by omega
                    clear hp
                    go_wp2_with fail
                    go_loopw [11, 12] (fun v kv wr => ∃ (i : Nat) (A3 : Option Addr) (c3 : Nat), i ≤ 8 ∧ kv = .int .i64 (p + (i : Int)) ∧ v = .slice A3 i c3 ∧ wr.ownsRow wo.heap.size 9 1 (.slice A3 i c3) i (strV (rowF st ba l ctl p i)) ∧ Below wo.heap.size wo wr) (fun _ kv _ => (6000 - intOf kv).toNat)
                    case atStart => exact ⟨0, none, 0, by omega, by simp, rfl, World.ownsRow_nil _ _ _ _, Below.refl _ _⟩
                    case round =>
                      obtain ⟨i, A3, c3, hi, rfl, rfl, hown3, hbel3⟩ := hrel
                      have HO3 := Lib.hid hown3
                      have HB4 := Lib.hid hbel3
                      have HB43 := Lib.hid (HBJ.out.trans (hbel3.mono hszo))
                      clear hown3 hbel3
                      by_cases hi8 : i < 8
                      · have hiI : p + (i : Int) < p + 8 := by omega
                        have qb := (HRB3.out.below HB43.out hgb3).cell
                        have C := Lib.hid (CB3.out (p + (i : Int)) wr HB43.out)
                        obtain ⟨⟨s0, ok⟩, hR⟩ : ∃ R, blkR l (p + (i : Int)) = R := ⟨_, rfl⟩
                        rw [hR] at C
                        have HRR := Lib.hid hR
                        have HRS := Lib.hid (rowF_succ (st := st) (ba := ba) (l := l) (ctl := ctl) p i)
                        have hcase : (p + (i : Int) ≠ E) ∨ (p + (i : Int) = E ∧ ctl.toList = []) ∨ (p + (i : Int) = E ∧ ctl.toList ≠ []) := by
                          by_cases h1 : p + (i : Int) = E
                          · by_cases h2 : ctl.toList = []
                            · exact .inr (.inl ⟨h1, h2⟩)
                            · exact .inr (.inr ⟨h1, h2⟩)
                          · exact .inl h1
                        have HELF : Hid (elF st ba l ctl (p + (i : Int)) = if p + (i : Int) = E ∧ ctl.toList ≠ [] then ctl else if ok = true then s0 else fillS 0) := Lib.hid (by unfold elF; rw [HCE.out, HRR.out])
                        clear hR
                        cases ok with
                        | true =>
                          rcases hcase with hc | ⟨hc, hcc⟩ | ⟨hc, hcc⟩
                          · have HEL : Hid (rowF st ba l ctl p (i + 1) = rowF st ba l ctl p i ++ [s0]) := Lib.hid (by rw [HRS.out, HELF.out, if_neg (fun h => hc h.1), if_pos rfl])
                            clear HRS HELF HRR
                            have hkB : (p + (i : Int) == E) = false := by rw [beq_eq_false_iff_ne]; omega
                            clear hc
                            go_wp2_with fail
                            refine C.out.mono ?_
                            rintro e w4 ⟨rfl, hb4⟩
                            have HO4 := Lib.hid (own_all HO3.out hb4)
                            have HB5 := Lib.hid (HB4.out.trans (hb4.mono HB4.out.size))
                            clear hb4 C qb
                            go_wp2_with (at_builtin; refine wpList_app1 HO4.out info_str Try.underlying22 rfl (by unfold maxLen; omega) (by omega) HB5.out.size rfl rfl rfl (by rfl) (by rfl) ?_; intro v5 w5 hown5 hb5 _; obtain ⟨A5, c5, hv5⟩ := own_slice hown5; subst hv5)
                            have hown6 : w5.ownsRow wo.heap.size 9 1 (.slice A5 (i + 1) c5) (i + 1) (strV (rowF st ba l ctl p (i + 1))) := by
                              rw [HEL.out]
                              unfold strV at hown5 ⊢
                              rw [List.map_append]
                              exact hown5
                            refine ⟨⟨i + 1, A5, c5, by omega, by rw [show p + ((i + 1 : Nat) : Int) = p + (i : Int) + 1 by omega], rfl, hown6, HB5.out.trans hb5⟩, by simp [intOf]; omega⟩
                          · have HEL : Hid (rowF st ba l ctl p (i + 1) = rowF st ba l ctl p i ++ [s0]) := Lib.hid (by rw [HRS.out, HELF.out, if_neg (fun h => h.2 hcc), if_pos rfl])
                            clear HRS HELF HRR
                            have hkB : (p + (i : Int) == E) = true := by rw [beq_iff_eq]; omega
                            have hcB : ctl.toList.isEmpty = true := by rw [hcc]; rfl
                            clear hc hcc
                            go_wp2_with fail
                            refine C.out.mono ?_
                            rintro e w4 ⟨rfl, hb4⟩
                            have HO4 := Lib.hid (own_all HO3.out hb4)
                            have HB5 := Lib.hid (HB4.out.trans (hb4.mono HB4.out.size))
                            clear hb4 C qb
                            go_wp2_with (at_builtin; refine wpList_app1 HO4.out info_str Try.underlying22 rfl (by unfold maxLen; omega) (by omega) HB5.out.size rfl rfl rfl (by rfl) (by rfl) ?_; intro v5 w5 hown5 hb5 _; obtain ⟨A5, c5, hv5⟩ := own_slice hown5; subst hv5)
                            have hown6 : w5.ownsRow wo.heap.size 9 1 (.slice A5 (i + 1) c5) (i + 1) (strV (rowF st ba l ctl p (i + 1))) := by
                              rw [HEL.out]
                              unfold strV at hown5 ⊢
                              rw [List.map_append]
                              exact hown5
                            refine ⟨⟨i + 1, A5, c5, by omega, by rw [show p + ((i + 1 : Nat) : Int) = p + (i : Int) + 1 by omega], rfl, hown6, HB5.out.trans hb5⟩, by simp [intOf]; omega⟩
                          · have HEL : Hid (rowF st ba l ctl p (i + 1) = rowF st ba l ctl p i ++ [ctl]) := Lib.hid (by rw [HRS.out, HELF.out, if_pos ⟨hc, hcc⟩])
                            clear HRS HELF HRR
                            have hkB : (p + (i : Int) == E) = true := by rw [beq_iff_eq]; omega
                            have hcB : ctl.toList.isEmpty = false := isE_false hcc
                            clear hc hcc
                            go_wp2_with fail
                            refine C.out.mono ?_
                            rintro e w4 ⟨rfl, hb4⟩
                            have HO4 := Lib.hid (own_all HO3.out hb4)
                            have HB5 := Lib.hid (HB4.out.trans (hb4.mono HB4.out.size))
                            clear hb4 C qb
                            go_wp2_with (at_builtin; refine wpList_app1 HO4.out info_str Try.underlying22 rfl (by unfold maxLen; omega) (by omega) HB5.out.size rfl rfl rfl (by rfl) (by rfl) ?_; intro v5 w5 hown5 hb5 _; obtain ⟨A5, c5, hv5⟩ := own_slice hown5; subst hv5)
                            have hown6 : w5.ownsRow wo.heap.size 9 1 (.slice A5 (i + 1) c5) (i + 1) (strV (rowF st ba l ctl p (i + 1))) := by
                              rw [HEL.out]
                              unfold strV at hown5 ⊢
                              rw [List.map_append]
                              exact hown5
                            refine ⟨⟨i + 1, A5, c5, by omega, by rw [show p + ((i + 1 : Nat) : Int) = p + (i : Int) + 1 by omega], rfl, hown6, HB5.out.trans hb5⟩, by simp [intOf]; omega⟩
                        | false =>
                          rcases hcase with hc | ⟨hc, hcc⟩ | ⟨hc, hcc⟩
                          · have HEL : Hid (rowF st ba l ctl p (i + 1) = rowF st ba l ctl p i ++ [fillS 0]) := Lib.hid (by rw [HRS.out, HELF.out, if_neg (fun h => hc h.1), if_neg (by decide)])
                            clear HRS HELF HRR
                            have hkB : (p + (i : Int) == E) = false := by rw [beq_eq_false_iff_ne]; omega
                            clear hc
                            go_wp2_with fail
                            refine C.out.mono ?_
                            rintro e w4 ⟨rfl, hb4⟩
                            have HO4 := Lib.hid (own_all HO3.out hb4)
                            have HB5 := Lib.hid (HB4.out.trans (hb4.mono HB4.out.size))
                            clear hb4 C qb
                            go_wp2_with (at_builtin; refine wpList_app1 HO4.out info_str Try.underlying22 rfl (by unfold maxLen; omega) (by omega) HB5.out.size rfl rfl rfl (by rfl) (by rfl) ?_; intro v5 w5 hown5 hb5 _; obtain ⟨A5, c5, hv5⟩ := own_slice hown5; subst hv5)
                            have hown6 : w5.ownsRow wo.heap.size 9 1 (.slice A5 (i + 1) c5) (i + 1) (strV (rowF st ba l ctl p (i + 1))) := by
                              rw [HEL.out]
                              unfold strV at hown5 ⊢
                              rw [List.map_append]
                              exact hown5
                            refine ⟨⟨i + 1, A5, c5, by omega, by rw [show p + ((i + 1 : Nat) : Int) = p + (i : Int) + 1 by omega], rfl, hown6, HB5.out.trans hb5⟩, by simp [intOf]; omega⟩
                          · have HEL : Hid (rowF st ba l ctl p (i + 1) = rowF st ba l ctl p i ++ [fillS 0]) := Lib.hid (by rw [HRS.out, HELF.out, if_neg (fun h => h.2 hcc), if_neg (by decide)])
                            clear HRS HELF HRR
                            have hkB : (p + (i : Int) == E) = true := by rw [beq_iff_eq]; omega
                            have hcB : ctl.toList.isEmpty = true := by rw [hcc]; rfl
                            clear hc hcc
                            go_wp2_with fail
                            refine C.out.mono ?_
                            rintro e w4 ⟨rfl, hb4⟩
                            have HO4 := Lib.hid (own_all HO3.out hb4)
                            have HB5 := Lib.hid (HB4.out.trans (hb4.mono HB4.out.size))
                            clear hb4 C qb
                            go_wp2_with (at_builtin; refine wpList_app1 HO4.out info_str Try.underlying22 rfl (by unfold maxLen; omega) (by omega) HB5.out.size rfl rfl rfl (by rfl) (by rfl) ?_; intro v5 w5 hown5 hb5 _; obtain ⟨A5, c5, hv5⟩ := own_slice hown5; subst hv5)
                            have hown6 : w5.ownsRow wo.heap.size 9 1 (.slice A5 (i + 1) c5) (i + 1) (strV (rowF st ba l ctl p (i + 1))) := by
                              rw [HEL.out]
                              unfold strV at hown5 ⊢
                              rw [List.map_append]
                              exact hown5
                            refine ⟨⟨i + 1, A5, c5, by omega, by rw [show p + ((i + 1 : Nat) : Int) = p + (i : Int) + 1 by omega], rfl, hown6, HB5.out.trans hb5⟩, by simp [intOf]; omega⟩
                          · have HEL : Hid (rowF st ba l ctl p (i + 1) = rowF st ba l ctl p i ++ [ctl]) := Lib.hid (by rw [HRS.out, HELF.out, if_pos ⟨hc, hcc⟩])
                            clear HRS HELF HRR
                            have hkB : (p + (i : Int) == E) = true := by rw [beq_iff_eq]; omega
                            have hcB : ctl.toList.isEmpty = false := isE_false hcc
                            clear hc hcc
                            go_wp2_with fail
                            refine C.out.mono ?_
                            rintro e w4 ⟨rfl, hb4⟩
                            have HO4 := Lib.hid (own_all HO3.out hb4)
                            have HB5 := Lib.hid (HB4.out.trans (hb4.mono HB4.out.size))
                            clear hb4 C qb
                            go_wp2_with (at_builtin; refine wpList_app1 HO4.out info_str Try.underlying22 rfl (by unfold maxLen; omega) (by omega) HB5.out.size rfl rfl rfl (by rfl) (by rfl) ?_; intro v5 w5 hown5 hb5 _; obtain ⟨A5, c5, hv5⟩ := own_slice hown5; subst hv5)
                            have hown6 : w5.ownsRow wo.heap.size 9 1 (.slice A5 (i + 1) c5) (i + 1) (strV (rowF st ba l ctl p (i + 1))) := by
                              rw [HEL.out]
                              unfold strV at hown5 ⊢
                              rw [List.map_append]
                              exact hown5
                            refine ⟨⟨i + 1, A5, c5, by omega, by rw [show p + ((i + 1 : Nat) : Int) = p + (i : Int) + 1 by omega], rfl, hown6, HB5.out.trans hb5⟩, by simp [intOf]; omega⟩
                      · obtain rfl : i = 8 := by omega
                        have hge : ¬ p + ((8 : Nat) : Int) < p + 8 := by omega
                        obtain ⟨sv, hsv⟩ : ∃ sv : Bool, decide (j + 1 = m) = sv := ⟨_, rfl⟩
                        have hsB : (p + 8 == E + 1) = sv := by
                          rw [← hsv]
                          have := HPP.out
                          by_cases hjm : j + 1 = m
                          · rw [decide_eq_true hjm, beq_iff_eq]; omega
                          · rw [decide_eq_false hjm, beq_eq_false_iff_ne]; omega
                        have HSV := Lib.hid hsv
                        have HOW4 := Lib.hid (own_all HOW.out HB4.out)
                        have HRL := Lib.hid (rowF_length (st := st) (ba := ba) (l := l) (ctl := ctl) p 8)
                        have h8 : p + ((8 : Nat) : Int) = p + 8 := rfl
                        have HO3E := Lib.hid (own_le HO3.out hszo)
                        have HXW : Hid (∀ x ∈ ws, wr.ownsRow w3.heap.size 9 1 (.slice x.A x.bl.length x.cap) x.bl.length (strV x.bl)) := Lib.hid (fun x hx => own_all (HX.out x hx) HB4.out)
                        rw [h8]
                        clear hsv hi8 hge
                        go_wp2_with (at_builtin; refine wpList_appN HOW4.out info_wr Try.underlying24 rfl (by decide) (us := [.int .i64 p, .slice A3 8 c3, .bool sv, .bool false]) rfl (by unfold maxLen; omega) (by omega) HB43.out.size (by intro u hu; simp only [List.mem_cons, List.not_mem_nil, or_false] at hu; rcases hu with rfl | rfl | rfl | rfl <;> rfl) rfl rfl (by rfl) (by rfl) ?_; intro v5 w5 hown5 hb5 hg5; obtain ⟨A5, c5, hv5⟩ := own_slice hown5; subst hv5)
                        have hown6 : w5.ownsRow w3.heap.size 49 4 (.slice A5 (j + 1) c5) (j + 1) (flat encW (ws ++ [⟨p, A3, c3, rowF st ba l ctl p 8, sv, false⟩])) := by
                          rw [flat_snoc]
                          unfold encW
                          dsimp only
                          rw [HRL.out]
                          exact hown5
                        have hx6 : ∀ x ∈ ws ++ [(⟨p, A3, c3, rowF st ba l ctl p 8, sv, false⟩ : Wr)], w5.ownsRow w3.heap.size 9 1 (.slice x.A x.bl.length x.cap) x.bl.length (strV x.bl) := by
                          intro x hx
                          rcases List.mem_append.1 hx with hx | hx
                          · exact own_grown (HXW.out x hx) hg5 (own_ne (HXW.out x hx) HOW4.out (by decide))
                          · obtain rfl := List.mem_singleton.1 hx
                            dsimp only
                            rw [HRL.out]
                            exact own_grown HO3E.out hg5 (own_ne HO3E.out HOW4.out (by decide))
                        have hws6 : (ws ++ [(⟨p, A3, c3, rowF st ba l ctl p 8, sv, false⟩ : Wr)]).length = j + 1 ∧ (ws ++ [(⟨p, A3, c3, rowF st ba l ctl p 8, sv, false⟩ : Wr)]).map wcore = (List.range (j + 1)).map (fcore st ba l ctl m) := by
                          refine ⟨by rw [List.length_append, HWS.out.1]; rfl, ?_⟩
                          rw [List.map_append, HWS.out.2, List.range_succ, List.map_append]
                          congr 1
                          show [(p, rowF st ba l ctl p 8, sv, false)] = [(ba + 8 * (j : Int), rowF st ba l ctl (ba + 8 * (j : Int)) 8, decide (j + 1 = m), false)]
                          rw [HPP.out, HSV.out]
                        have hpn : p + 8 = ba + 8 * ((j + 1 : Nat) : Int) := by have := HPP.out; omega
                        clear hsB HSV
                        refine ⟨⟨j + 1, _, A5, c5, by omega, Lib.hid hws6, by rw [hpn], rfl, hown6, Lib.hid hx6, HB43.out.trans hb5⟩, by simp [intOf]; omega⟩
                  · obtain rfl : j = m := by omega
                    have hpE : p = E + 1 := by omega
                    have hge : ¬ p < E + 1 := by omega
                    have qb := (HRB3.out.below HBJ.out hgb3).cell
                    have hrz := HRZ3.out.below HBJ.out hgz3
                    have HRZ4 := Lib.hid hrz
                    have qz := hrz.cell
                    have fz := hrz.frozen
                    clear hp hrz hpE
                    go_wp2_with fail
                    have qr := (((HRZ4.out.set_ 0 (.int .i64 st)).set_ 1 (.int .i64 (E + 1))).set_ 2 (.slice none 0 0)).cell
                    refine bodyPost_ret (v := .tuple #[rwV st (E + 1) none 0 0, .slice A2 j c2, .int .i64 0]) (by simp [rwV, results, Try.results50, go_sem, qr]) rfl ?_
                    have hbz := below_set3 (HB3W.out.trans (HBJ.out.mono HB3W.out.size)) (g := w.heap.size + 1) (by omega) (.int .i64 st) (.int .i64 (E + 1)) (.slice none 0 0)
                    refine ⟨hbz, .inr ⟨HE.out, HNZ.out, j, ws, A2, c2, by rw [HCE.out]; exact hm8, HWS.out.1, HWS.out.2, by rw [HCE.out], ?_, fun x hx => ?_⟩⟩
                    · exact SlAt.of_own' (own_set3 HOW.out (g := w.heap.size + 1) hgz3 _ _ _) (Nat.le_refl _)
                    · exact SlAt.of_own' (own_set3 (HX.out x hx) (g := w.heap.size + 1) hgz3 _ _ _) (Nat.le_refl _)
      · have hoB : (0 : Int) < ((openL l).length : Int) := by
          have := List.length_pos_iff.2 hop
          omega
        have HE : Hid (flE st ba l ctl = 8) := Lib.hid (by unfold flE; rw [if_neg HARG.out, if_pos hop])
        have qb := HRB2.out.cell
        have qz := HRZ2.out.cell
        have fz := HRZ2.out.frozen
        clear hop
        go_wp2_with fail
        have qr := (((HRZ2.out.set_ 0 (.int .i64 st)).set_ 1 (.int .i64 ba)).set_ 2 (.slice Al n cl)).cell
        exact bodyPost_ret (v := .tuple #[rwV st ba Al n cl, .slice none 0 0, .int .i64 8]) (by simp [rwV, results, Try.results50, go_sem, qr]) rfl (HBACK.out _ 8 HB2.out HE.out (.inl (by decide)))
end Go.Proofs.Ytdmdfpdigoijoaa
