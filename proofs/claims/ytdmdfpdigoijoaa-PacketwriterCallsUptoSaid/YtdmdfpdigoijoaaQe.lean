import Derived.Test.YtdmdfpdigoijoaaQc
import Derived.Test.YtdmdfpdigoijoaaPwFm
import Derived.Test.YtdmdfpdigoijoaaPwZ
import Derived.Test.YtdmdfpdigoijoaaPwP2
import Derived.Test.YtdmdfpdigoijoaaPwN
/-
  Chapter 52: Fill, Block, Open and Control of the reference.
-/
namespace Go.Proofs.Ytdmdfpdigoijoaa
open Go.RowKit
set_option linter.unusedVariables false

def fiL (l : List Pend) (a : Int) (b : ByteArray) : List Pend := if fillE l a b = 0 then setL l a b else l
def RFillRes (st ba : Int) (Al : Option Addr) (cl : Nat) (l l' : List Pend) (E : Int) (w : World) (e : Ending) (w' : World) : Prop :=
  Below w.heap.size w w' ∧ ∃ A c, e = .returned (.tuple #[rwV st ba A l'.length c, .int .i64 E]) ∧ KeepOr w w' Al A cl c l l'
theorem pn_cells {w : World} {base g c n e : Nat} {l : List Pend} (h : w.ownsRow base e 2 (.slice (some ⟨g, 0, none⟩) n c) n (flat encP l)) {k : Nat} {x : Pend} (hk : l[k]? = some x) :
    w.cell? ⟨g, k * 2, none⟩ = some (.int .i64 x.lba) ∧ w.cell? ⟨g, k * 2 + 1, none⟩ = some (.string x.blk) := by
  have hlt := (List.getElem?_eq_some_iff.1 hk).1
  have hn : l.length = n := by have := h.1; rw [flat_length encP_length] at this; omega
  have h0 := h.cellAt (k * 2) (by omega)
  have h1 := h.cellAt (k * 2 + 1) (by omega)
  have f0 := flat_get encP_length l k 0 x hk (by omega)
  have f1 := flat_get encP_length l k 1 x hk (by omega)
  rw [Nat.add_zero] at f0
  exact ⟨h0.trans (f0.trans rfl), h1.trans (f1.trans rfl)⟩
theorem fiL_no {l : List Pend} {a : Int} {b : ByteArray} {E : Int} (h : fillE l a b = E) (h0 : E ≠ 0) : fiL l a b = l := by
  unfold fiL
  rw [h, if_neg h0]

set_option maxRecDepth 100000 in
set_option maxHeartbeats 4000000 in
theorem rfill_any (st ba : Int) (Al : Option Addr) (cl : Nat) (l : List Pend) (a : Int) (b : ByteArray) (w : World) (h : PnAt w w.heap.size Al l) (hl : l.length ≤ 100000) :
    Calls Try.prog 48 #[rwV st ba Al l.length cl, .int .i64 a, .string b] w (RFillRes st ba Al cl l (fiL l a b) (fillE l a b) w) := by
  have HP := Lib.hid h
  obtain ⟨m, hm⟩ : ∃ m, l.length = m := ⟨_, rfl⟩
  have HM := Lib.hid hm
  rw [hm] at hl ⊢
  unfold rwV
  have HB0 := Lib.hid (((Below.refl w.heap.size w).alloc (Nat.le_refl _) (.cells #[.int .i64 st, .int .i64 ba, .slice Al m cl] 76)).alloc (by simp) (.cells #[.int .i64 0, .int .i64 0, .slice none 0 0] 76))
  have HRB := Lib.hid ((RowAt.new w 76 #[.int .i64 st, .int .i64 ba, .slice Al m cl]).alloc (.cells #[.int .i64 0, .int .i64 0, .slice none 0 0] 76))
  have HRZ := Lib.hid (RowAt.new (w.alloc (.cells #[.int .i64 st, .int .i64 ba, .slice Al m cl] 76)) 76 #[.int .i64 0, .int .i64 0, .slice none 0 0])
  have hgz1 : (w.alloc (.cells #[.int .i64 st, .int .i64 ba, .slice Al m cl] 76)).heap.size = w.heap.size + 1 := by simp
  rw [hgz1] at HRZ
  clear h hm hgz1
  by_cases hs : b.size = 2048
  · have hsI : ((b.size : Int) != 2048) = false := by rw [bne_eq_false_iff_eq]; omega
    go_enter Try.func48, Try.ntmps48
    go_upto_region 1 with fail
    generalize (w.alloc (.cells #[.int .i64 st, .int .i64 ba, .slice Al m cl] 76)).alloc (.cells #[.int .i64 0, .int .i64 0, .slice none 0 0] 76) = w1 at *
    have hgb := HRB.out.lt
    have hgz := HRZ.out.lt
    have hw1 := HB0.out.size
    have HPD : Hid (∀ w', Below w1.heap.size w1 w' → SlAt w' w.heap.size Al (flat encP l)) := Lib.hid (fun w' hb => HP.out.below (HB0.out.trans (hb.mono HB0.out.size)))
    have HLN : Hid ((flat encP l).length = m * 2) := Lib.hid (by rw [flat_length encP_length, HM.out])
    have HSZ := Lib.hid hs
    clear hs
    go_upto_region 3 with fail
    go_cut [8] from 14 to 22 (fun x wx => ∃ go A7 c7, x = .pointer (some ⟨go, 0, none⟩) ∧ RowAt wx go 76 #[.int .i64 st, .int .i64 ba, .slice A7 m c7] ∧ wx.ownsRow w1.heap.size 121 2 (.slice A7 m c7) m (flat encP l) ∧ Below w1.heap.size w1 wx ∧ w1.heap.size ≤ go)
    case first =>
      refine wp_region_held_drew (S := (fun w' => Below w1.heap.size w1 w')) (by kernel_rfl) ((Below.refl _ _).drew) (fun hHeld => ?_)
      generalize w1.drew = wd at *
      refine wpAnyH_take (i := 0) (oi := ?o19) (v := ?v19) ?hi19 (by kernel_rfl) (by kernel_rfl) (by kernel_rfl) ?hq19 ?hy19 (by assumption) ?hr19
      case hi19 => (simp only [List.getElem?_toArray, List.getElem?_cons_zero]; rfl)
      case hy19 => ((refine .inl ⟨by rfl, ?_⟩); intro w hS; go_simp; (try with_reducible rfl))
      case hq19 => exact fun _ _ _ h => h
      (simp only [Act.put, List.setIfInBounds_toArray, List.set_cons_zero, List.set_cons_succ])
      refine wpAnyH_take (i := 1) (oi := ?o20) (v := ?v20) ?hi20 (by kernel_rfl) (by kernel_rfl) (by kernel_rfl) ?hq20 ?hy20 (by assumption) ?hr20
      case hi20 => (simp only [List.getElem?_toArray, List.getElem?_cons_succ, List.getElem?_cons_zero]; rfl)
      case hy20 => ((refine .inl ⟨by rfl, ?_⟩); intro w hS; have q := (HRB.out.below hS hgb).cell; go_simp; (try with_reducible rfl))
      case hq20 => exact fun _ _ _ h => h
      (simp only [Act.put, List.setIfInBounds_toArray, List.set_cons_zero, List.set_cons_succ])
      refine wpAnyH_take (i := 2) (oi := ?o21) (v := ?v21) ?hi21 (by kernel_rfl) (by kernel_rfl) (by kernel_rfl) ?hq21 ?hy21 (by assumption) ?hr21
      case hi21 => (simp only [List.getElem?_toArray, List.getElem?_cons_succ, List.getElem?_cons_zero]; rfl)
      case hy21 => ((refine .inl ⟨by rfl, ?_⟩); intro w hS; go_simp; (try with_reducible rfl))
      case hq21 => exact fun _ _ _ h => h
      (simp only [Act.put, List.setIfInBounds_toArray, List.set_cons_zero, List.set_cons_succ])
      refine wpAnyH_take (i := 3) (oi := ?o22) (v := ?v22) ?hi22 (by kernel_rfl) (by kernel_rfl) (by kernel_rfl) ?hq22 ?hy22 (by assumption) ?hr22
      case hi22 => (simp only [List.getElem?_toArray, List.getElem?_cons_succ, List.getElem?_cons_zero]; rfl)
      case hy22 => ((refine .inl ⟨by rfl, ?_⟩); intro w hS; have q := (HRB.out.below hS hgb).cell; go_simp; (try with_reducible rfl))
      case hq22 => exact fun _ _ _ h => h
      (simp only [Act.put, List.setIfInBounds_toArray, List.set_cons_zero, List.set_cons_succ])
      refine wpAnyH_take (i := 5) (oi := ?o23) (v := ?v23) ?hi23 (by kernel_rfl) (by kernel_rfl) (by kernel_rfl) ?hq23 ?hy23 (by assumption) ?hr23
      case hi23 => (simp only [List.getElem?_toArray, List.getElem?_cons_succ, List.getElem?_cons_zero]; rfl)
      case hy23 => ((refine .inl ⟨by rfl, ?_⟩); intro w hS; go_simp; (try with_reducible rfl))
      case hq23 => exact fun _ _ _ h => h
      (simp only [Act.put, List.setIfInBounds_toArray, List.set_cons_zero, List.set_cons_succ])
      refine wpAnyH_take (i := 6) (oi := ?o24) (v := ?v24) ?hi24 (by kernel_rfl) (by kernel_rfl) (by kernel_rfl) ?hq24 ?hy24 (by assumption) ?hr24
      case hi24 => (simp only [List.getElem?_toArray, List.getElem?_cons_succ, List.getElem?_cons_zero]; rfl)
      case hy24 => ((refine .inl ⟨by rfl, ?_⟩); intro w hS; have q := (HRB.out.below hS hgb).cell; go_simp; (try with_reducible rfl))
      case hq24 => exact fun _ _ _ h => h
      (simp only [Act.put, List.setIfInBounds_toArray, List.set_cons_zero, List.set_cons_succ])
      refine wpAnyH_ready (rs := [4, 9]) (by kernel_rfl) (by simp) ?_
      refine AllReadyH.cons rfl (fun K hK => ?_) (AllReadyH.cons rfl (fun K hK => ?_) AllReadyH.nil)
      · skip
        go_simp
        refine hK.out _ _ (hHeld.alloc hHeld.size _) (fun hHeld1 => ?_)
        clear hK K
        (try simp only [Act.put, List.setIfInBounds_toArray, List.set_cons_zero, List.set_cons_succ])
        have HO := Lib.hid (World.ownsRow_lit (base := w1.heap.size) (e := 121) (size := 2) wd #[] 0 hHeld.size (by decide) rfl)
        clear hHeld; have hHeld := hHeld1; clear hHeld1
        obtain ⟨g4, hg4⟩ : ∃ g4, wd.heap.size = g4 := ⟨_, rfl⟩
        rw [hg4] at HO ⊢
        generalize wd.alloc (.cells #[] 121) = w4 at *
        clear hg4
        refine wpAnyH_ready (rs := [7, 9]) (by kernel_rfl) (by simp) ?_
        refine AllReadyH.cons rfl (fun K hK => ?_) (AllReadyH.cons rfl (fun K hK => ?_) AllReadyH.nil)
        · skip
          refine step_appX HO.out info_rpend Try.underlying74 rfl (by decide) (m := m) HLN.out (HPD.out _ hHeld) encP_one (by unfold maxLen; omega) (by omega) hHeld.size rfl rfl (by rfl) (by rfl) ?_; intro v7 w7 hown7 hg7 hbl7; rw [List.nil_append, Nat.zero_add] at hown7; obtain ⟨A7, c7, hv7⟩ := own_slice hown7; subst hv7
          refine hK.out _ _ (hHeld.grown hg7 hHeld.size (fun k hk => (HO.out.lt k hk).1)) (fun hHeld1 => ?_)
          clear hK K
          (try simp only [Act.put, List.setIfInBounds_toArray])
          have HO7 := Lib.hid hown7
          clear HO
          have HO := HO7
          clear HO7 hown7 hg7
          clear hHeld; have hHeld := hHeld1; clear hHeld1
          refine wpAnyH_take (i := 8) (oi := ?o25) (v := ?v25) ?hi25 (by kernel_rfl) (by kernel_rfl) (by kernel_rfl) ?hq25 ?hy25 (by assumption) ?hr25
          case hi25 => (simp only [List.getElem?_toArray, List.getElem?_cons_succ, List.getElem?_cons_zero]; rfl)
          case hy25 => ((refine .inl ⟨by rfl, ?_⟩); intro w hS; go_simp; (try with_reducible rfl))
          case hq25 => exact fun _ _ _ h => h
          (simp only [Act.put])
          refine wpAnyH_ready (rs := [9]) (by kernel_rfl) (by simp) ?_
          refine AllReadyH.cons rfl (fun K hK => ?_) AllReadyH.nil
          go_simp
          refine hK.out _ _ (hHeld.alloc hHeld.size _) (fun hHeld1 => ?_)
          clear hK K
          (try simp only [Act.put, List.setIfInBounds_toArray, List.set_cons_zero, List.set_cons_succ])
          have HG := Lib.hid (RowAt.new w7 76 #[.int .i64 0, .int .i64 0, .slice none 0 0])
          have hgo2 := hHeld.size
          have HO9 := Lib.hid (HO.out.alloc (.cells #[.int .i64 0, .int .i64 0, .slice none 0 0] 76))
          clear HO
          have HO := HO9
          clear HO9
          clear hHeld; have hHeld := hHeld1; clear hHeld1
          obtain ⟨go, hgo⟩ : ∃ go, w7.heap.size = go := ⟨_, rfl⟩
          rw [hgo] at HG hgo2 ⊢
          generalize w7.alloc (.cells #[.int .i64 0, .int .i64 0, .slice none 0 0] 76) = w9 at *
          clear hgo
          have q := HG.out.cell
          have f := HG.out.frozen
          refine wpAnyH_ready (rs := [10]) (by kernel_rfl) (by simp) ?_
          refine AllReadyH.cons rfl (fun K hK => ?_) AllReadyH.nil
          go_simp
          refine hK.out _ _ (below_set3 hHeld hgo2 _ _ _) (fun hHeld1 => ?_)
          clear hK K
          (try simp only [Act.put, List.setIfInBounds_toArray, List.set_cons_zero, List.set_cons_succ])
          clear hHeld; have hHeld := hHeld1; clear hHeld1
          refine wpAnyH_done (by kernel_rfl) ?_ _
          have r1 := HG.out.set_ 0 (.int .i64 st)
          have r2 := r1.set_ 1 (.int .i64 ba)
          have r3 := r2.set_ 2 (.slice A7 m c7)
          have o1 := own_set_ty (j := 0) (u := .int .i64 st) HO.out HG.out (by decide)
          have o2 := own_set_ty (j := 1) (u := .int .i64 ba) o1 r1 (by decide)
          have o3 := own_set_ty (j := 2) (u := .slice A7 m c7) o2 r2 (by decide)
          clear q f
          go_wp2_with fail
          go_meet
          exact ⟨go, A7, c7, rfl, r3, o3, hHeld, hgo2⟩
        · skip
          go_simp
          refine hK.out _ _ (hHeld.alloc hHeld.size _) (fun hHeld1 => ?_)
          clear hK K
          (try simp only [Act.put, List.setIfInBounds_toArray, List.set_cons_zero, List.set_cons_succ])
          have HG := Lib.hid (RowAt.new w4 76 #[.int .i64 0, .int .i64 0, .slice none 0 0])
          have hgo2 := hHeld.size
          have HO9 := Lib.hid (HO.out.alloc (.cells #[.int .i64 0, .int .i64 0, .slice none 0 0] 76))
          clear HO
          have HO := HO9
          clear HO9
          clear hHeld; have hHeld := hHeld1; clear hHeld1
          obtain ⟨go, hgo⟩ : ∃ go, w4.heap.size = go := ⟨_, rfl⟩
          rw [hgo] at HG hgo2 ⊢
          generalize w4.alloc (.cells #[.int .i64 0, .int .i64 0, .slice none 0 0] 76) = w9 at *
          clear hgo
          refine wpAnyH_ready (rs := [7]) (by kernel_rfl) (by simp) ?_
          refine AllReadyH.cons rfl (fun K hK => ?_) AllReadyH.nil
          refine step_appX HO.out info_rpend Try.underlying74 rfl (by decide) (m := m) HLN.out (HPD.out _ hHeld) encP_one (by unfold maxLen; omega) (by omega) hHeld.size rfl rfl (by rfl) (by rfl) ?_; intro v7 w7 hown7 hg7 hbl7; rw [List.nil_append, Nat.zero_add] at hown7; obtain ⟨A7, c7, hv7⟩ := own_slice hown7; subst hv7
          refine hK.out _ _ (hHeld.grown hg7 hHeld.size (fun k hk => (HO.out.lt k hk).1)) (fun hHeld1 => ?_)
          clear hK K
          (try simp only [Act.put, List.setIfInBounds_toArray])
          have HO7 := Lib.hid hown7
          have HG7 := Lib.hid (HG.out.grown hg7 (fun e => own_row_ne HO.out HG.out (by decide) go e.symm rfl))
          clear HG
          have HG := HG7
          clear HG7
          have q := HG.out.cell
          have f := HG.out.frozen
          clear HO
          have HO := HO7
          clear HO7 hown7 hg7
          clear hHeld; have hHeld := hHeld1; clear hHeld1
          refine wpAnyH_take (i := 8) (oi := ?o26) (v := ?v26) ?hi26 (by kernel_rfl) (by kernel_rfl) (by kernel_rfl) ?hq26 ?hy26 (by assumption) ?hr26
          case hi26 => (simp only [List.getElem?_toArray, List.getElem?_cons_succ, List.getElem?_cons_zero]; rfl)
          case hy26 => ((refine .inl ⟨by rfl, ?_⟩); intro w hS; go_simp; (try with_reducible rfl))
          case hq26 => exact fun _ _ _ h => h
          (simp only [Act.put])
          refine wpAnyH_ready (rs := [10]) (by kernel_rfl) (by simp) ?_
          refine AllReadyH.cons rfl (fun K hK => ?_) AllReadyH.nil
          go_simp
          refine hK.out _ _ (below_set3 hHeld hgo2 _ _ _) (fun hHeld1 => ?_)
          clear hK K
          (try simp only [Act.put, List.setIfInBounds_toArray, List.set_cons_zero, List.set_cons_succ])
          clear hHeld; have hHeld := hHeld1; clear hHeld1
          refine wpAnyH_done (by kernel_rfl) ?_ _
          have r1 := HG.out.set_ 0 (.int .i64 st)
          have r2 := r1.set_ 1 (.int .i64 ba)
          have r3 := r2.set_ 2 (.slice A7 m c7)
          have o1 := own_set_ty (j := 0) (u := .int .i64 st) HO.out HG.out (by decide)
          have o2 := own_set_ty (j := 1) (u := .int .i64 ba) o1 r1 (by decide)
          have o3 := own_set_ty (j := 2) (u := .slice A7 m c7) o2 r2 (by decide)
          clear q f
          go_wp2_with fail
          go_meet
          exact ⟨go, A7, c7, rfl, r3, o3, hHeld, hgo2⟩
      · skip
        go_simp
        refine hK.out _ _ (hHeld.alloc hHeld.size _) (fun hHeld1 => ?_)
        clear hK K
        (try simp only [Act.put, List.setIfInBounds_toArray, List.set_cons_zero, List.set_cons_succ])
        have HG := Lib.hid (RowAt.new wd 76 #[.int .i64 0, .int .i64 0, .slice none 0 0])
        have hgo2 := hHeld.size
        clear hHeld; have hHeld := hHeld1; clear hHeld1
        obtain ⟨go, hgo⟩ : ∃ go, wd.heap.size = go := ⟨_, rfl⟩
        rw [hgo] at HG hgo2 ⊢
        generalize wd.alloc (.cells #[.int .i64 0, .int .i64 0, .slice none 0 0] 76) = w9 at *
        clear hgo
        refine wpAnyH_ready (rs := [4]) (by kernel_rfl) (by simp) ?_
        refine AllReadyH.cons rfl (fun K hK => ?_) AllReadyH.nil
        go_simp
        refine hK.out _ _ (hHeld.alloc hHeld.size _) (fun hHeld1 => ?_)
        clear hK K
        (try simp only [Act.put, List.setIfInBounds_toArray, List.set_cons_zero, List.set_cons_succ])
        have HO := Lib.hid (World.ownsRow_lit (base := w1.heap.size) (e := 121) (size := 2) w9 #[] 0 hHeld.size (by decide) rfl)
        have HG4 := Lib.hid (HG.out.alloc (.cells #[] 121))
        clear HG
        have HG := HG4
        clear HG4
        clear hHeld; have hHeld := hHeld1; clear hHeld1
        obtain ⟨g4, hg4⟩ : ∃ g4, w9.heap.size = g4 := ⟨_, rfl⟩
        rw [hg4] at HO ⊢
        generalize w9.alloc (.cells #[] 121) = w4 at *
        clear hg4
        refine wpAnyH_ready (rs := [7]) (by kernel_rfl) (by simp) ?_
        refine AllReadyH.cons rfl (fun K hK => ?_) AllReadyH.nil
        refine step_appX HO.out info_rpend Try.underlying74 rfl (by decide) (m := m) HLN.out (HPD.out _ hHeld) encP_one (by unfold maxLen; omega) (by omega) hHeld.size rfl rfl (by rfl) (by rfl) ?_; intro v7 w7 hown7 hg7 hbl7; rw [List.nil_append, Nat.zero_add] at hown7; obtain ⟨A7, c7, hv7⟩ := own_slice hown7; subst hv7
        refine hK.out _ _ (hHeld.grown hg7 hHeld.size (fun k hk => (HO.out.lt k hk).1)) (fun hHeld1 => ?_)
        clear hK K
        (try simp only [Act.put, List.setIfInBounds_toArray])
        have HO7 := Lib.hid hown7
        have HG7 := Lib.hid (HG.out.grown hg7 (fun e => own_row_ne HO.out HG.out (by decide) go e.symm rfl))
        clear HG
        have HG := HG7
        clear HG7
        have q := HG.out.cell
        have f := HG.out.frozen
        clear HO
        have HO := HO7
        clear HO7 hown7 hg7
        clear hHeld; have hHeld := hHeld1; clear hHeld1
        refine wpAnyH_take (i := 8) (oi := ?o27) (v := ?v27) ?hi27 (by kernel_rfl) (by kernel_rfl) (by kernel_rfl) ?hq27 ?hy27 (by assumption) ?hr27
        case hi27 => (simp only [List.getElem?_toArray, List.getElem?_cons_succ, List.getElem?_cons_zero]; rfl)
        case hy27 => ((refine .inl ⟨by rfl, ?_⟩); intro w hS; go_simp; (try with_reducible rfl))
        case hq27 => exact fun _ _ _ h => h
        (simp only [Act.put])
        refine wpAnyH_ready (rs := [10]) (by kernel_rfl) (by simp) ?_
        refine AllReadyH.cons rfl (fun K hK => ?_) AllReadyH.nil
        go_simp
        refine hK.out _ _ (below_set3 hHeld hgo2 _ _ _) (fun hHeld1 => ?_)
        clear hK K
        (try simp only [Act.put, List.setIfInBounds_toArray, List.set_cons_zero, List.set_cons_succ])
        clear hHeld; have hHeld := hHeld1; clear hHeld1
        refine wpAnyH_done (by kernel_rfl) ?_ _
        have r1 := HG.out.set_ 0 (.int .i64 st)
        have r2 := r1.set_ 1 (.int .i64 ba)
        have r3 := r2.set_ 2 (.slice A7 m c7)
        have o1 := own_set_ty (j := 0) (u := .int .i64 st) HO.out HG.out (by decide)
        have o2 := own_set_ty (j := 1) (u := .int .i64 ba) o1 r1 (by decide)
        have o3 := own_set_ty (j := 2) (u := .slice A7 m c7) o2 r2 (by decide)
        clear q f
        go_wp2_with fail
        go_meet
        exact ⟨go, A7, c7, rfl, r3, o3, hHeld, hgo2⟩
    case rest =>
      obtain ⟨go, A7, c7, rfl, hrg, hpd, hb3, hgo⟩ := hcut
      go_wp2_with fail
      go_loopw [9] (fun i wr => ∃ j : Nat, j ≤ m ∧ i = .int .i64 j ∧ Hid (∀ i y, i < j → l[i]? = some y → y.lba ≠ a) ∧ RowAt wr go 76 #[.int .i64 st, .int .i64 ba, .slice A7 m c7] ∧ wr.ownsRow w1.heap.size 121 2 (.slice A7 m c7) m (flat encP l) ∧ Below w1.heap.size w1 wr) (fun i _ => m - (intOf i).toNat)
      case atStart => exact ⟨0, by omega, rfl, Lib.hid (fun i y hi => absurd hi (by omega)), hrg, hpd, hb3⟩
      case round =>
        clear hrg hpd hb3
        obtain ⟨j, hj, rfl, HS, hrw, hpd, hbel⟩ := hrel
        have HRW := Lib.hid hrw
        have HPD2 := Lib.hid hpd
        have HBJ := Lib.hid hbel
        have HBW := Lib.hid (HB0.out.trans (hbel.mono hw1))
        have hrz := HRZ.out.below hbel hgz
        have hszr := hbel.size
        have HRZ2 := Lib.hid hrz
        have qo := hrw.cell
        clear hrz hrw hbel
        by_cases hlt2 : j < m
        · obtain ⟨x, hx⟩ : ∃ x, l[j]? = some x := ⟨l[j]'(by rw [HM.out]; exact hlt2), List.getElem?_eq_getElem _⟩
          obtain ⟨gl, cap, hv, hgl0, hgl, _⟩ := own_form hpd (by omega)
          injection hv with hA _ hc
          subst hA hc
          obtain ⟨p0, p1⟩ := pn_cells hpd hx
          have hltI : (j : Int) < (m : Int) := by omega
          have h0j : (0 : Int) ≤ (j : Int) := by omega
          have HX := Lib.hid hx
          clear hx hpd
          by_cases hxa : x.lba = a
          · have hxb : (x.lba != a) = false := by rw [bne_eq_false_iff_eq]; exact hxa
            have HF : Hid (findP l a = (j : Int)) := Lib.hid (findIdx_hit HX.out hxa HS.out)
            have hbp : Hid (blkP l a = x.blk) := Lib.hid (by unfold blkP; rw [HF.out, Int.toNat_natCast, HX.out]; rfl)
            have HXA := Lib.hid hxa
            clear hxa
            by_cases hbe : x.blk.toList = []
            · have HE : Hid (fillE l a b = 0) := Lib.hid (by unfold fillE; rw [if_neg (by have := HSZ.out; omega), if_neg (by rw [HF.out]; omega), hbp.out, if_neg (by simp [hbe])])
              have hbe2 : x.blk.toList.isEmpty = true := by rw [hbe]; rfl
              have HSL : Hid (fiL l a b = l.set j ⟨x.lba, b⟩) := Lib.hid (by unfold fiL setL; rw [HE.out, if_pos rfl, HF.out, Int.toNat_natCast, HXA.out])
              have hne : go ≠ gl := fun e => (own_row_ne HPD2.out HRW.out (by decide)) gl rfl e.symm
              have f1 := HPD2.out.frozenAt (j * 2 + 1)
              have HLL : Hid ((fiL l a b).length = m) := Lib.hid (by rw [HSL.out, List.length_set, HM.out])
              have hbw1 := Lib.hid (HBW.out.setCell (p := ⟨gl, j * 2 + 1, none⟩) (by show w.heap.size ≤ gl; omega) (.string b))
              have hrw1 := Lib.hid (HRW.out.far (p := ⟨gl, j * 2 + 1, none⟩) hne (.string b))
              have hrz1 := Lib.hid (HRZ2.out.far (p := ⟨gl, j * 2 + 1, none⟩) (show w.heap.size + 1 ≠ gl by omega) (.string b))
              have hp1 := Lib.hid ((HPD2.out.stored (j * 2 + 1) (.string b)).1)
              rw [flat_setP HX.out, ← HSL.out] at hp1
              go_upto_region 11 with fail
              generalize wr.setCell ⟨gl, j * 2 + 1, none⟩ (.string b) = wy at *
              clear p0 p1 qo f1
              have qo := hrw1.out.cell
              have qz := hrz1.out.cell
              have fz := hrz1.out.frozen
              have hneq : go ≠ w.heap.size + 1 := by omega
              go_wp2_with fail
              have qr := (((hrz1.out.set_ 0 (.int .i64 st)).set_ 1 (.int .i64 ba)).set_ 2 (.slice (some ⟨gl, 0, none⟩) m c7)).cell
              refine bodyPost_ret (v := .tuple #[rwV st ba (some ⟨gl, 0, none⟩) m c7, .int .i64 0]) (by simp [rwV, results, Try.results48, go_sem, qr]) rfl ?_
              rw [HE.out]
              have hbz := below_set3 hbw1.out (g := w.heap.size + 1) (by omega) (.int .i64 st) (.int .i64 ba) (.slice (some ⟨gl, 0, none⟩) m c7)
              have o3 := own_set3 hp1.out (g := w.heap.size + 1) hgz (.int .i64 st) (.int .i64 ba) (.slice (some ⟨gl, 0, none⟩) m c7)
              exact ⟨hbz, some ⟨gl, 0, none⟩, c7, by rw [HLL.out], .inr (by rw [HLL.out]; exact own_le o3 hw1)⟩
            · have HE : Hid (fillE l a b = 5) := Lib.hid (by unfold fillE; rw [if_neg (by have := HSZ.out; omega), if_neg (by rw [HF.out]; omega), hbp.out, if_pos hbe])
              have hbe2 : x.blk.toList.isEmpty = false := isE_false hbe
              have hL := Lib.hid (fiL_no HE.out (by decide))
              have qb := (HRB.out.below HBJ.out hgb).cell
              have qz := HRZ2.out.cell
              have fz := HRZ2.out.frozen
              clear hbe
              go_wp2_with fail
              have qr := (((HRZ2.out.set_ 0 (.int .i64 st)).set_ 1 (.int .i64 ba)).set_ 2 (.slice Al m cl)).cell
              refine bodyPost_ret (v := .tuple #[rwV st ba Al m cl, .int .i64 5]) (by simp [rwV, results, Try.results48, go_sem, qr]) rfl ?_
              rw [HE.out, hL.out]
              have hbz := below_set3 HBW.out (g := w.heap.size + 1) (by omega) (.int .i64 st) (.int .i64 ba) (.slice Al m cl)
              exact ⟨hbz, Al, cl, by rw [HM.out], .inl ⟨rfl, rfl, rfl⟩⟩
          · have hxb : (x.lba != a) = true := by rw [bne_iff_ne]; exact hxa
            have HS2 : Hid (∀ i y, i < j + 1 → l[i]? = some y → y.lba ≠ a) := Lib.hid (fun i y hi hy => by
              rcases Nat.lt_or_ge i j with h | h
              · exact HS.out i y h hy
              · obtain rfl : i = j := by omega
                have := HX.out
                rw [hy] at this
                injection this with this
                rw [this]; exact hxa)
            clear hxa
            go_wp2_with fail
            go_roundw
            case rel => exact ⟨j + 1, by omega, by go_num, HS2, HRW.out, HPD2.out, HBJ.out⟩
            case measure => simp [intOf]; omega
        · obtain rfl : j = m := by omega
          have hge2 : ¬ (j : Int) < (j : Int) := by omega
          have HF : Hid (findP l a = -1) := Lib.hid (findIdx_none (fun i y hy => HS.out i y (by have := (List.getElem?_eq_some_iff.1 hy).1; have := HM.out; omega) hy))
          have HE : Hid (fillE l a b = 6) := Lib.hid (by unfold fillE; rw [if_neg (by have := HSZ.out; omega), if_pos (by rw [HF.out]; omega)])
          have hL := Lib.hid (fiL_no HE.out (by decide))
          have qb := (HRB.out.below HBJ.out hgb).cell
          have qz := HRZ2.out.cell
          have fz := HRZ2.out.frozen
          clear hpd
          go_wp2_with fail
          have qr := (((HRZ2.out.set_ 0 (.int .i64 st)).set_ 1 (.int .i64 ba)).set_ 2 (.slice Al j cl)).cell
          refine bodyPost_ret (v := .tuple #[rwV st ba Al j cl, .int .i64 6]) (by simp [rwV, results, Try.results48, go_sem, qr]) rfl ?_
          rw [HE.out, hL.out]
          have hbz := below_set3 HBW.out (g := w.heap.size + 1) (by omega) (.int .i64 st) (.int .i64 ba) (.slice Al j cl)
          exact ⟨hbz, Al, cl, by rw [HM.out], .inl ⟨rfl, rfl, rfl⟩⟩
  · have hsI : ((b.size : Int) != 2048) = true := by rw [bne_iff_ne]; omega
    have HE : Hid (fillE l a b = 1) := Lib.hid (by unfold fillE; rw [if_pos hs])
    have hL := Lib.hid (fiL_no HE.out (by decide))
    have qb := HRB.out.cell
    have qz := HRZ.out.cell
    have fz := HRZ.out.frozen
    go_enter Try.func48, Try.ntmps48
    go_upto_region 1 with fail
    generalize (w.alloc (.cells #[.int .i64 st, .int .i64 ba, .slice Al m cl] 76)).alloc (.cells #[.int .i64 0, .int .i64 0, .slice none 0 0] 76) = w1 at *
    go_wp2_with fail
    have qr := (((HRZ.out.set_ 0 (.int .i64 st)).set_ 1 (.int .i64 ba)).set_ 2 (.slice Al m cl)).cell
    refine bodyPost_ret (v := .tuple #[rwV st ba Al m cl, .int .i64 1]) (by simp [rwV, results, Try.results48, go_sem, qr]) rfl ?_
    rw [HE.out, hL.out]
    have hbz := below_set3 HB0.out (g := w.heap.size + 1) (by omega) (.int .i64 st) (.int .i64 ba) (.slice Al m cl)
    exact ⟨hbz, Al, cl, by rw [HM.out], .inl ⟨rfl, rfl, rfl⟩⟩
/-- The box of the writer that came in. -/
theorem box_facts (w : World) (st ba : Int) (Al : Option Addr) (m cl : Nat) : RowAt (w.alloc (.cells #[.int .i64 st, .int .i64 ba, .slice Al m cl] 76)) w.heap.size 76 #[.int .i64 st, .int .i64 ba, .slice Al m cl] ∧ Below w.heap.size w (w.alloc (.cells #[.int .i64 st, .int .i64 ba, .slice Al m cl] 76)) :=
  ⟨RowAt.new _ _ _, (Below.refl _ _).alloc (Nat.le_refl _) _⟩
theorem inc_eq {l : List Pend} (h : (l.map (·.lba)).Pairwise (· < ·)) {i j : Nat} {x y : Pend} (hi : l[i]? = some x) (hj : l[j]? = some y) (he : x.lba = y.lba) : i = j := by
  have hil := (List.getElem?_eq_some_iff.1 hi).1
  have hjl := (List.getElem?_eq_some_iff.1 hj).1
  have hp := List.pairwise_iff_getElem.1 h
  have e1 : (l.map (·.lba))[i]'(by simpa using hil) = x.lba := by rw [List.getElem_map, (List.getElem?_eq_some_iff.1 hi).2]
  have e2 : (l.map (·.lba))[j]'(by simpa using hjl) = y.lba := by rw [List.getElem_map, (List.getElem?_eq_some_iff.1 hj).2]
  rcases Nat.lt_trichotomy i j with h1 | h1 | h1
  · have := hp i j (by simpa using hil) (by simpa using hjl) h1
    rw [e1, e2] at this
    omega
  · exact h1
  · have := hp j i (by simpa using hjl) (by simpa using hil) h1
    rw [e1, e2] at this
    omega
theorem blkR_hit {l : List Pend} {a : Int} {j : Nat} {x : Pend} (h : (l.map (·.lba)).Pairwise (· < ·)) (hx : l[j]? = some x) (ha : x.lba = a) (hb : x.blk.toList ≠ []) : blkR l a = (x.blk, true) := by
  have hf : findP l a = (j : Int) := findIdx_hit hx ha (fun i y hi hy hya => by have := inc_eq h hy hx (by rw [hya, ha]); omega)
  have hp : blkP l a = x.blk := by unfold blkP; rw [hf, Int.toNat_natCast, hx]; rfl
  unfold blkR
  rw [hp, hf, if_neg (by simp only [not_or]; exact ⟨by omega, hb⟩)]
theorem blkR_none {l : List Pend} {a : Int} (h : ∀ (i : Nat) (y : Pend), l[i]? = some y → ¬ (y.lba = a ∧ y.blk.toList ≠ [])) : blkR l a = (blankS, false) := by
  unfold blkR
  rw [if_pos]
  rcases findP_cases l a with ⟨hf, _⟩ | ⟨k, x, hf, hx, hxa, _⟩
  · left; omega
  · right
    have hp : blkP l a = x.blk := by unfold blkP; rw [hf, Int.toNat_natCast, hx]; rfl
    rw [hp]
    have := h k x hx
    simpa [hxa] using this
set_option maxHeartbeats 2000000 in
theorem rblock_any (st ba : Int) (Al : Option Addr) (cl : Nat) (l : List Pend) (a : Int) (w : World) (h : PnAt w w.heap.size Al l) (hl : l.length ≤ 100000) (hi : (l.map (·.lba)).Pairwise (· < ·)) :
    Calls Try.prog 52 #[rwV st ba Al l.length cl, .int .i64 a] w fun e w' => e = .returned (.tuple #[.string (blkR l a).1, .bool (blkR l a).2]) ∧ Below w.heap.size w w' := by
  have HP := Lib.hid h
  have HI := Lib.hid hi
  obtain ⟨m, hm⟩ : ∃ m, l.length = m := ⟨_, rfl⟩
  have HM := Lib.hid hm
  rw [hm] at hl ⊢
  obtain ⟨hrb, hbb⟩ := box_facts w st ba Al m cl
  have HRB := Lib.hid hrb
  have HBB := Lib.hid hbb
  have qb := hrb.cell
  obtain ⟨R, hR⟩ : ∃ R, blkR l a = R := ⟨_, rfl⟩
  have HR := Lib.hid hR
  rw [hR]
  unfold rwV
  clear h hm hrb hbb hi hR
  go_enter Try.func52, Try.ntmps52
  go_upto_region 1 with fail
  generalize w.alloc (.cells #[.int .i64 st, .int .i64 ba, .slice Al m cl] 76) = w1 at *
  go_wp2_with fail
  go_loopw [6] (fun i wr => ∃ j : Nat, j ≤ m ∧ i = .int .i64 j ∧ Hid (∀ (i : Nat) (y : Pend), i < j → l[i]? = some y → ¬ (y.lba = a ∧ y.blk.toList ≠ [])) ∧ wr = w1) (fun i _ => m - (intOf i).toNat)
  case atStart => exact ⟨0, by omega, rfl, Lib.hid (fun i y hi => absurd hi (by omega)), rfl⟩
  case round =>
    obtain ⟨j, hj, rfl, HS, rfl⟩ := hrel
    by_cases hlt : j < m
    · obtain ⟨x, hx⟩ : ∃ x, l[j]? = some x := ⟨l[j]'(by rw [HM.out]; exact hlt), List.getElem?_eq_getElem _⟩
      obtain ⟨b, off, hA, hb⟩ := HP.out.one (by rw [HM.out]; omega)
      subst hA
      obtain ⟨p0, p1⟩ := (HP.out.below HBB.out).cells rfl hx
      have hltI : (j : Int) < (m : Int) := by omega
      have h0j : (0 : Int) ≤ (j : Int) := by omega
      have HX := Lib.hid hx
      clear hx
      have hnext : ¬ (x.lba = a ∧ x.blk.toList ≠ []) → Hid (∀ (i : Nat) (y : Pend), i < j + 1 → l[i]? = some y → ¬ (y.lba = a ∧ y.blk.toList ≠ [])) := fun hn => Lib.hid (fun i y hi hy => by
        rcases Nat.lt_or_ge i j with h | h
        · exact HS.out i y h hy
        · obtain rfl : i = j := by omega
          have := HX.out
          rw [hy] at this
          injection this with this
          rw [this]; exact hn)
      by_cases hxa : x.lba = a
      · by_cases hbe : x.blk.toList = []
        · have hxb : (x.lba == a) = true := by rw [beq_iff_eq]; exact hxa
          have hbe2 : x.blk.toList.isEmpty = true := by rw [hbe]; rfl
          have HNX := hnext (fun h => h.2 hbe)
          clear hnext hxa hbe
          go_wp2_with fail
          go_roundw
          case rel => exact ⟨j + 1, by omega, by go_num, HNX, by trivial⟩
          case measure => simp [intOf]; omega
        · have hxb : (x.lba == a) = true := by rw [beq_iff_eq]; exact hxa
          have hbe2 : x.blk.toList.isEmpty = false := isE_false hbe
          have HRR : Hid (R = (x.blk, true)) := Lib.hid (by rw [← HR.out]; exact blkR_hit HI.out HX.out hxa hbe)
          clear hnext hxa hbe
          go_wp2_with fail
          go_ret2
          exact ⟨by rw [HRR.out]; rfl, HBB.out⟩
      · have hxb : (x.lba == a) = false := by rw [beq_eq_false_iff_ne]; exact hxa
        have HNX := hnext (fun h => hxa h.1)
        clear hnext hxa
        go_wp2_with fail
        go_roundw
        case rel => exact ⟨j + 1, by omega, by go_num, HNX, by trivial⟩
        case measure => simp [intOf]; omega
    · obtain rfl : j = m := by omega
      have hge : ¬ (j : Int) < (j : Int) := by omega
      have HRR : Hid (R = (blankS, false)) := Lib.hid (by rw [← HR.out]; exact blkR_none (fun i y hy => HS.out i y (by have := (List.getElem?_eq_some_iff.1 hy).1; have := HM.out; omega) hy))
      go_wp2_with fail
      go_ret2
      exact ⟨by rw [HRR.out]; rfl, HBB.out⟩
set_option maxRecDepth 100000 in
set_option maxHeartbeats 2000000 in
theorem ropen_any (st ba : Int) (Al : Option Addr) (cl : Nat) (l : List Pend) (w : World) (h : PnAt w w.heap.size Al l) (hl : l.length ≤ 100000) :
    Calls Try.prog 54 #[rwV st ba Al l.length cl] w (OpenRes (openL l) w) := by
  have HP := Lib.hid h
  obtain ⟨n, hn⟩ : ∃ n, l.length = n := ⟨_, rfl⟩
  have HN := Lib.hid hn
  rw [hn] at hl ⊢
  obtain ⟨hrb, hbb⟩ := box_facts w st ba Al n cl
  have HRB := Lib.hid hrb
  have HBB := Lib.hid hbb
  have hgb := hrb.lt
  unfold rwV
  clear h hn hrb hbb
  go_enter Try.func54, Try.ntmps54
  go_upto_region 1 with fail
  generalize w.alloc (.cells #[.int .i64 st, .int .i64 ba, .slice Al n cl] 76) = w1 at *
  go_wp2_with fail
  go_loopw [3, 4] (fun v i wr => ∃ (k L : Nat) (A : Option Addr) (c : Nat), Hid (L = (openL (l.take k)).length) ∧ L ≤ k ∧ k ≤ n ∧ i = .int .i64 k ∧ v = .slice A L c ∧ wr.ownsRow w1.heap.size 3 1 (.slice A L c) L (intV (openL (l.take k))) ∧ Below w1.heap.size w1 wr) (fun _ i _ => n - (intOf i).toNat)
  case atStart => exact ⟨0, 0, none, 0, Lib.hid rfl, by omega, by omega, rfl, rfl, World.ownsRow_nil _ _ _ _, Below.refl _ _⟩
  case round =>
    obtain ⟨k, L, A, c, HL, hLk, hk, rfl, rfl, hown, hbel⟩ := hrel
    have qb := (HRB.out.below hbel hgb).cell
    by_cases hlt : k < n
    · obtain ⟨x, hx⟩ : ∃ x, l[k]? = some x := ⟨l[k]'(by rw [HN.out]; exact hlt), List.getElem?_eq_getElem _⟩
      obtain ⟨b, off, hA, hb⟩ := HP.out.one (by rw [HN.out]; omega)
      subst hA
      obtain ⟨p0, p1⟩ := (HP.out.below (HBB.out.trans (hbel.mono HBB.out.size))).cells rfl hx
      have HSN := Lib.hid (openL_snoc hx)
      have hltI : (k : Int) < (n : Int) := by omega
      have h0k : (0 : Int) ≤ (k : Int) := by omega
      clear hx
      obtain ⟨lx, bx⟩ := x
      dsimp only at p0 p1 HSN
      by_cases hb : bx.toList = []
      · have HS2 : Hid (openL (l.take (k + 1)) = openL (l.take k) ++ [lx]) := Lib.hid (by rw [HSN.out, if_pos hb])
        have hbB : bx.toList.isEmpty = true := by rw [hb]; rfl
        clear HSN
        go_wp2_with (at_builtin; refine wpList_app1 hown info_int Try.underlying38 rfl (by unfold maxLen; omega) (by omega) hbel.size rfl rfl rfl (by rfl) (by rfl) ?_; intro v1 w2 hown2 hb2 _; obtain ⟨A2, c2, hv2⟩ := own_slice hown2; subst hv2)
        go_roundw
        case rel =>
          refine ⟨k + 1, L + 1, A2, c2, Lib.hid (by rw [HS2.out, List.length_append, ← HL.out]; rfl), by omega, by omega, by go_num, rfl, ?_, hbel.trans hb2⟩
          rw [HS2.out]
          unfold intV at hown2 ⊢
          rw [List.map_append]
          exact hown2
        case measure => simp [intOf]; omega
      · have HS2 : Hid (openL (l.take (k + 1)) = openL (l.take k)) := Lib.hid (by rw [HSN.out, if_neg hb, List.append_nil])
        have hbB : bx.toList.isEmpty = false := by simp [hb]
        clear HSN
        go_wp2_with fail
        go_roundw
        case rel => exact ⟨k + 1, L, A, c, Lib.hid (by rw [HS2.out]; exact HL.out), by omega, by omega, by go_num, rfl, by rw [HS2.out]; exact hown, hbel⟩
        case measure => simp [intOf]; omega
    · obtain rfl : k = n := by omega
      have hge : ¬ (k : Int) < (k : Int) := by omega
      have HF : Hid (openL (l.take k) = openL l) := Lib.hid (by rw [List.take_of_length_le (by rw [HN.out]; omega)])
      rw [HF.out] at hown HL
      go_wp2_with fail
      go_ret
      refine ⟨HBB.out.trans (hbel.mono HBB.out.size), A, c, by rw [← HL.out]; rfl, ?_⟩
      rw [← HL.out]
      exact own_le hown HBB.out.size
set_option maxHeartbeats 2000000 in
theorem rcontrol_any (st ba : Int) (Al : Option Addr) (cl : Nat) (l : List Pend) (w : World) (h : PnAt w w.heap.size Al l) (hl : l.length ≤ 100000) (hst : 0 ≤ st) (h1 : st ≤ lastL ba l) (h2 : lastL ba l ≤ 1000000) :
    Calls Try.prog 55 #[rwV st ba Al l.length cl] w fun e w' => e = .returned (.int .i64 (ctlL st ba l)) ∧ Below w.heap.size w w' := by
  have CLa := Lib.hid (fun w' (hb : Below w.heap.size w w') => rlast_any st ba Al cl l w' ((h.below hb).mono hb.size) (by omega))
  have CE := Lib.hid (fun w' => rend_any st (lastL ba l) w' hst h1 h2)
  have HC : Hid (ctlL st ba l = endL st (lastL ba l) - 1) := Lib.hid (by unfold ctlL endL; omega)
  have hE : -1000000000 ≤ endL st (lastL ba l) ∧ endL st (lastL ba l) ≤ 1000000000 := by unfold endL; omega
  rw [HC.out]
  generalize endL st (lastL ba l) = E at *
  generalize lastL ba l = la at *
  obtain ⟨n, hn⟩ : ∃ n, l.length = n := ⟨_, rfl⟩
  rw [hn] at hl CLa ⊢
  obtain ⟨hrb, hbb⟩ := box_facts w st ba Al n cl
  have HRB := Lib.hid hrb
  have HBB := Lib.hid hbb
  have hgb := hrb.lt
  unfold rwV at CLa ⊢
  clear h hn hrb hbb HC
  go_enter Try.func55, Try.ntmps55
  go_upto_region 1 with fail
  generalize w.alloc (.cells #[.int .i64 st, .int .i64 ba, .slice Al n cl] 76) = w1 at *
  have hw1 : IntKind.i64.wrap (E - 1) = E - 1 := IntWalk.i64_in _ (by omega)
  refine wp_region_held_drew (S := (fun w' => Below w1.heap.size w1 w')) (by kernel_rfl) ((Below.refl _ _).drew) (fun hHeld => ?_)
  generalize w1.drew = wd at *
  refine wpAnyH_take (i := 0) (oi := ?o28) (v := ?v28) ?hi28 (by kernel_rfl) (by kernel_rfl) (by kernel_rfl) ?hq28 ?hy28 (by assumption) ?hr28
  case hi28 => (simp only [List.getElem?_toArray, List.getElem?_cons_zero]; rfl)
  case hy28 => ((refine .inl ⟨by rfl, ?_⟩); intro w hS; go_simp; (try with_reducible rfl))
  case hq28 => exact fun _ _ _ h => h
  (simp only [Act.put, List.setIfInBounds_toArray, List.set_cons_zero, List.set_cons_succ])
  refine wpAnyH_take (i := 1) (oi := ?o29) (v := ?v29) ?hi29 (by kernel_rfl) (by kernel_rfl) (by kernel_rfl) ?hq29 ?hy29 (by assumption) ?hr29
  case hi29 => (simp only [List.getElem?_toArray, List.getElem?_cons_succ, List.getElem?_cons_zero]; rfl)
  case hy29 => ((refine .inl ⟨by rfl, ?_⟩); intro w hS; have q := (HRB.out.below hS hgb).cell; go_simp; (try with_reducible rfl))
  case hq29 => exact fun _ _ _ h => h
  (simp only [Act.put, List.setIfInBounds_toArray, List.set_cons_zero, List.set_cons_succ])
  refine wpAnyH_take (i := 2) (oi := ?o30) (v := ?v30) ?hi30 (by kernel_rfl) (by kernel_rfl) (by kernel_rfl) ?hq30 ?hy30 (by assumption) ?hr30
  case hi30 => (simp only [List.getElem?_toArray, List.getElem?_cons_succ, List.getElem?_cons_zero]; rfl)
  case hy30 => ((refine .inl ⟨by rfl, ?_⟩); intro w hS; have q := (HRB.out.below hS hgb).cell; go_simp; (try with_reducible rfl))
  case hq30 => exact fun _ _ _ h => h
  (simp only [Act.put, List.setIfInBounds_toArray, List.set_cons_zero, List.set_cons_succ])
  refine wpAnyH_ready (rs := [3]) (by kernel_rfl) (by simp) ?_
  refine AllReadyH.cons rfl (fun K hK => ?_) AllReadyH.nil
  go_simp
  go_wp2_with (((with_reducible refine (CLa.out _ (HBB.out.trans (hHeld.mono HBB.out.size))).mono ?_); rintro e w3 ⟨rfl, hb3⟩))
  refine hK.out _ _ (hHeld.trans (hb3.mono hHeld.size)) (fun hHeld1 => ?_)
  clear hK K
  (try simp only [Act.put, List.setIfInBounds_toArray, List.set_cons_zero, List.set_cons_succ])
  clear hb3
  clear hHeld; have hHeld := hHeld1; clear hHeld1
  refine wpAnyH_ready (rs := [4]) (by kernel_rfl) (by simp) ?_
  refine AllReadyH.cons rfl (fun K hK => ?_) AllReadyH.nil
  go_simp
  go_wp2_with (((with_reducible refine (CE.out _).mono ?_); rintro e w4 ⟨rfl, rfl⟩))
  refine hK.out _ _ (hHeld) (fun hHeld1 => ?_)
  clear hK K
  (try simp only [Act.put, List.setIfInBounds_toArray, List.set_cons_zero, List.set_cons_succ])
  clear hHeld; have hHeld := hHeld1; clear hHeld1
  refine wpAnyH_take (i := 5) (oi := ?o31) (v := ?v31) ?hi31 (by kernel_rfl) (by kernel_rfl) (by kernel_rfl) ?hq31 ?hy31 (by assumption) ?hr31
  case hi31 => (simp only [List.getElem?_toArray, List.getElem?_cons_succ, List.getElem?_cons_zero]; rfl)
  case hy31 => ((refine .inl ⟨by rfl, ?_⟩); intro w hS; go_simp; (try with_reducible rfl))
  case hq31 => exact fun _ _ _ h => h
  (simp only [Act.put, List.setIfInBounds_toArray, List.set_cons_zero, List.set_cons_succ])
  refine wpAnyH_take (i := 6) (oi := ?o32) (v := ?v32) ?hi32 (by kernel_rfl) (by kernel_rfl) (by kernel_rfl) ?hq32 ?hy32 (by assumption) ?hr32
  case hi32 => (simp only [List.getElem?_toArray, List.getElem?_cons_succ, List.getElem?_cons_zero]; rfl)
  case hy32 => ((refine .inl ⟨by rfl, ?_⟩); intro w hS; go_simp; (try with_reducible rfl))
  case hq32 => exact fun _ _ _ h => h
  (simp only [Act.put, List.setIfInBounds_toArray, List.set_cons_zero, List.set_cons_succ])
  refine wpAnyH_done (by kernel_rfl) ?_ _
  go_wp2_with fail
  go_ret
  exact ⟨rfl, HBB.out.trans (hHeld.mono HBB.out.size)⟩
end Go.Proofs.Ytdmdfpdigoijoaa

/-
  Chapter 52: Flush of the reference.
-/
namespace Go.Proofs.Ytdmdfpdigoijoaa
open Go.RowKit
set_option linter.unusedVariables false

/-! ### Plain -/
/-- The block of an address in a flush. -/
def elF (st ba : Int) (l : List Pend) (ctl : ByteArray) (k : Int) : ByteArray := if k = ctlL st ba l ∧ ctl.toList ≠ [] then ctl else if (blkR l k).2 = true then (blkR l k).1 else fillS 0
/-- What a write says, wherever its blocks lie. -/
def wcore (x : Wr) : Int × List ByteArray × Bool × Bool := (x.pos, x.bl, x.sync, x.close)
def rowF (st ba : Int) (l : List Pend) (ctl : ByteArray) (p : Int) (i : Nat) : List ByteArray := (List.range i).map fun q : Nat => elF st ba l ctl (p + (q : Int))
def fcore (st ba : Int) (l : List Pend) (ctl : ByteArray) (m j : Nat) : Int × List ByteArray × Bool × Bool := (ba + 8 * (j : Int), rowF st ba l ctl (ba + 8 * (j : Int)) 8, decide (j + 1 = m), false)
section
variable {st ba : Int} {l : List Pend} {ctl : ByteArray}
theorem rowF_succ (p : Int) (i : Nat) : rowF st ba l ctl p (i + 1) = rowF st ba l ctl p i ++ [elF st ba l ctl (p + (i : Int))] := by simp [rowF, List.range_succ]
theorem rowF_length (p : Int) (i : Nat) : (rowF st ba l ctl p i).length = i := by simp [rowF]
theorem open_all (h : openL l = []) : ∀ x ∈ l, x.blk.toList ≠ [] := by
  intro x hx he
  unfold openL at h
  have := List.filter_eq_nil_iff.1 (List.map_eq_nil_iff.1 h) x hx
  exact this (decide_eq_true he)
theorem flAll_el (h : Wok st ba l) (ho : openL l = []) {i : Nat} (hi : (i : Int) < ctlL st ba l + 1 - ba) : (flAll st ba l ctl)[i]? = some (elF st ba l ctl (ba + (i : Int))) := by
  have hct := h.ctl
  unfold elF
  by_cases hc : ba + (i : Int) = ctlL st ba l ∧ ctl.toList ≠ []
  · rw [if_pos hc]
    have := flAll_last h hc.2
    rwa [show (ctlL st ba l - ba).toNat = i by omega] at this
  · rw [if_neg hc]
    rcases findP_cases l (ba + (i : Int)) with ⟨hf, hn⟩ | ⟨k, x, hf, hx, hxa, _⟩
    · have hb : (blkR l (ba + (i : Int))).2 = false := by unfold blkR; rw [if_pos (.inl (by omega))]
      rw [hb, if_neg (by decide)]
      have hz := flRow_zero h hi hn
      unfold flAll flCtl
      by_cases hcc : ctl.toList = []
      · rw [if_pos hcc]; exact hz
      · have hne : ¬ ba + (i : Int) = ctlL st ba l := fun e => hc ⟨e, hcc⟩
        rw [if_neg hcc, List.getElem?_set_ne (by rw [flRow_length]; omega)]
        exact hz
    · have hb := blkR_hit h.inc hx hxa (open_all ho x (List.mem_of_getElem? hx))
      rw [hb, if_pos rfl]
      have := flAll_pend (ctl := ctl) h x (List.mem_of_getElem? hx)
      rwa [show (x.lba - ba).toNat = i by omega] at this
theorem flWs_core (h : Wok st ba l) (ho : openL l = []) (g : Nat) {m : Nat} (hm : (8 * m : Int) = ctlL st ba l + 1 - ba) : (flWs g ba (flAll st ba l ctl) m m).map wcore = (List.range m).map (fcore st ba l ctl m) := by
  unfold flWs
  rw [List.map_map]
  refine List.map_congr_left fun j hj => ?_
  have hj := List.mem_range.1 hj
  show (ba + 8 * (j : Int), ((flAll st ba l ctl).drop (8 * j)).take 8, decide (j + 1 = m), false) = (ba + 8 * (j : Int), rowF st ba l ctl (ba + 8 * (j : Int)) 8, decide (j + 1 = m), false)
  congr 2
  refine List.ext_getElem? fun i => ?_
  by_cases hi : i < 8
  · rw [List.getElem?_take, if_pos hi, List.getElem?_drop, flAll_el h ho (by omega)]
    unfold rowF
    rw [List.getElem?_map, List.getElem?_range hi, Option.map_some]
    congr 2
    omega
  · rw [List.getElem?_eq_none (by rw [List.length_take]; omega), List.getElem?_eq_none (by rw [rowF_length]; omega)]
end
/-- From A on lie the writes ws. -/
def WsAt (w : World) (B : Nat) (A : Option Addr) (ws : List Wr) : Prop := SlAt w B A (flat encW ws) ∧ ∀ x ∈ ws, SlAt w B x.A (strV x.bl)
section
variable {w w' : World} {B C : Nat} {A : Option Addr} {ws : List Wr}
theorem WrAt.wsAt (h : WrAt w B A ws) : WsAt w B A ws := ⟨h.1, fun x hx => (h.2 x hx).1⟩
theorem WsAt.below (h : WsAt w B A ws) (hb : Below B w w') : WsAt w' B A ws := ⟨h.1.below hb, fun x hx => (h.2 x hx).below hb⟩
theorem WsAt.mono (h : WsAt w B A ws) (hBC : B ≤ C) : WsAt w C A ws := ⟨h.1.mono hBC, fun x hx => (h.2 x hx).mono hBC⟩
theorem WsAt.nil (w : World) (B : Nat) (A : Option Addr) : WsAt w B A [] := ⟨SlAt.nil _ _ _, fun x hx => (List.not_mem_nil hx).elim⟩
end
/-! ### Zero -/
theorem byt_ext {a b : ByteArray} (h : a.data.toList = b.data.toList) : a = b := by
  cases a
  cases b
  congr 1
  exact Array.toList_inj.1 h
def zS (n : Nat) : ByteArray := ⟨(List.replicate n 0).toArray⟩
theorem zS_size (n : Nat) : (zS n).size = n := by show (List.replicate n (0 : UInt8)).toArray.size = n; simp
theorem zS_add (n : Nat) : zS n ++ zS n = zS (n + n) := by
  refine byt_ext ?_
  rw [ByteArray.data_append, Array.toList_append]
  show List.replicate n (0 : UInt8) ++ List.replicate n 0 = List.replicate (n + n) 0
  rw [List.replicate_append_replicate]
def strLen : Value → Nat | .string s => s.size | _ => 0
theorem rzero_any (w : World) : Calls Try.prog 76 #[] w fun e w' => e = .returned (.string (fillS 0)) ∧ w = w' := by
  have h8 : (⟨#[0, 0, 0, 0, 0, 0, 0, 0]⟩ : ByteArray) = zS 8 := rfl
  go_enter Try.func76, Try.ntmps76
  go_wp2_with fail
  go_loopw [1] (fun v wr => ∃ N : Nat, (N = 8 ∨ N = 16 ∨ N = 32 ∨ N = 64 ∨ N = 128 ∨ N = 256 ∨ N = 512 ∨ N = 1024 ∨ N = 2048) ∧ v = .string (zS N) ∧ w = wr) (fun v _ => 4096 - strLen v)
  case atStart => exact ⟨8, by omega, rfl, rfl⟩
  case round =>
    obtain ⟨N, hN, rfl, rfl⟩ := hrel
    have hsz := zS_size N
    have hadd := zS_add N
    by_cases hlt : N < 2048
    · have hltI : (N : Int) < 2048 := by omega
      go_wp2_with fail
      go_roundw
      case rel => exact ⟨N + N, by omega, rfl, by trivial⟩
      case measure => simp [strLen, zS_size]; omega
    · obtain rfl : N = 2048 := by omega
      go_wp2_with fail
      go_ret
      exact ⟨rfl, rfl⟩
end Go.Proofs.Ytdmdfpdigoijoaa
