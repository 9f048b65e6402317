/-
  Chapter 52: Flush: the writes.
-/
import Derived.Test.YtdmdfpdigoijoaaPwG
import Derived.Test.YtdmdfpdigoijoaaPwY
import Derived.Test.YtdmdfpdigoijoaaHeld
import Derived.Deep.Cut
import Derived.Deep.CutRange
namespace Go.Proofs.Ytdmdfpdigoijoaa
open Go.RowKit
set_option linter.unusedVariables false

theorem flWs_step (g : Nat) (ba : Int) (row : List ByteArray) (j k : Nat) (hk : k = 8 * j) (hl : k + 8 ≤ row.length) : flat encW (flWs g ba row 0 j) ++ [.int .i64 (ba + (k : Int)), .slice (some ⟨g, k, none⟩) 8 8, .bool false, .bool false] = flat encW (flWs g ba row 0 (j + 1)) := by
  subst hk
  rw [flWs_succ, flat_snoc]
  congr 1
  unfold flW encW
  have e2 : decide (j + 1 = 0) = false := decide_eq_false (by omega)
  have e3 : ((row.drop (8 * j)).take 8).length = 8 := by rw [List.length_take, List.length_drop]; omega
  dsimp only
  rw [e2, e3]
  simp
theorem info_wr : (Try.prog.info? 49).map (fun i => (i.zero, i.size, i.bytes)) = some (some (.agg #[.int .i64 0, .slice none 0 0, .bool false, .bool false]), 4, 40) := by kernel_rfl
/-- What Flush answers where there are writes. -/
def FlushRes (g : Nat) (st ba : Int) (l : List Pend) (ctl : ByteArray) (w : World) (e : Ending) (w' : World) : Prop :=
  ∃ (gb m : Nat) (A : Option Addr) (c : Nat), 0 < m ∧ (8 * m : Int) = ctlL st ba l + 1 - ba ∧ e = .returned (.tuple #[.slice A m c, .int .i64 0]) ∧ WrAt w' w'.heap.size A (flWs gb ba (flAll st ba l ctl) m m) ∧ RowAt w' g 109 #[.int .i64 st, .int .i64 (ctlL st ba l + 1), .slice none 0 0] ∧ Two w w' g none
theorem flush_res {g gb m go c N k cl : Nat} {st ba E : Int} {l : List Pend} {ctl : ByteArray} {R : List ByteArray} {Al : Option Addr} {w W : World} (hE : ctlL st ba l = E) (hN : (N : Int) = E + 1 - ba) (hNm : N = 8 * m) (hm : 0 < m) (hR : flAll st ba l ctl = R) (hRl : R.length = N)
    (hg : g < w.heap.size) (hw : RowAt w g 109 #[.int .i64 st, .int .i64 ba, .slice Al k cl])
    (hst : St w W [(gb, 9, (strV R).toArray)]) (ho : W.ownsRow w.heap.size 49 4 (.slice (some ⟨go, 0, none⟩) m c) m (flat encW (flWs gb ba R m m))) :
    FlushRes g st ba l ctl w (.returned (.tuple #[.slice (some ⟨go, 0, none⟩) m c, .int .i64 0])) ((W.setCell ⟨g, 1, none⟩ (.int .i64 (E + 1))).setCell ⟨g, 2, none⟩ (.slice none 0 0)) := by
  have hr0 : RowAt W g 109 _ := hw.below hst.bel hg
  have hr1 := (hr0.set_ 1 (.int .i64 (E + 1))).set_ 2 (.slice none 0 0)
  have ho1 := own_set (j := 2) (u := .slice none 0 0) (own_set (j := 1) (u := .int .i64 (E + 1)) ho hg) hg
  have hgb : RowAt W gb 9 (strV R).toArray := hst.at (i := 0) rfl
  have hgbw : w.heap.size ≤ gb := hst.base (i := 0) rfl
  have hgb1 := (hgb.far (p := ⟨g, 1, none⟩) (show gb ≠ g by omega) (.int .i64 (E + 1))).far (p := ⟨g, 2, none⟩) (show gb ≠ g by omega) (.slice none 0 0)
  refine ⟨gb, m, some ⟨go, 0, none⟩, c, hm, by rw [hE]; omega, rfl, ⟨SlAt.of_own' (by rw [hR]; exact ho1) (Nat.le_refl _), ?_⟩, by rw [hE]; exact hr1, ?_⟩
  · intro x hx
    rw [hR] at hx
    unfold flWs at hx
    obtain ⟨j, hj, rfl⟩ := List.mem_map.1 hx
    have hj := List.mem_range.1 hj
    refine ⟨?_, ?_, by show 8 ≤ maxLen; unfold maxLen; omega⟩
    · intro i u hu
      unfold flW strV at hu
      dsimp only at hu
      rw [List.map_take, List.map_drop, List.getElem?_take] at hu
      by_cases hi : i < 8
      · rw [if_pos hi, List.getElem?_drop] at hu
        refine ⟨gb, 8 * j, rfl, by simpa using hst.lt (i := 0) rfl, ?_⟩
        rw [hgb1.cell, List.getElem?_toArray]
        exact hu
      · rw [if_neg hi] at hu; cases hu
    · show ((R.drop (8 * j)).take 8).length ≤ 8
      rw [List.length_take]; omega
  · exact (((Two.refl w g none).below hst.bel).set).set
set_option maxRecDepth 100000 in
set_option maxHeartbeats 4000000 in
theorem flush_go (base0 g : Nat) (st ba : Int) (l : List Pend) (ctl : ByteArray) (w : World) (h : WtAt w base0 g st ba l) (hl : l.length ≤ 100000) (hst : 0 ≤ st) (h1 : st ≤ lastL ba l) (h2 : lastL ba l ≤ 1000000)
    (hc : ctl.toList = [] ∨ (ctl.toList ≠ [] ∧ ctl.size = 2048)) (ho : openL l = []) (h0 : ¬ (l = [] ∧ ctl.toList = [])) (hf : ctlL st ba l + 1 ≤ 4096) (hba : 0 ≤ ba) (hlb : ∀ x ∈ l, ba ≤ x.lba ∧ x.lba ≤ ctlL st ba l) (hbe : ba ≤ ctlL st ba l) (h8 : (ba - st) % 8 = 0) :
    Calls Try.prog 27 #[.pointer (some ⟨g, 0, none⟩), .string ctl] w (FlushRes g st ba l ctl w) := by
  have CT := Lib.hid (control_any base0 g st ba l w h (by omega) hst h1 h2)
  have OP := Lib.hid (open_any base0 g st ba l w h hl)
  obtain ⟨Al, cl, hr, hown0⟩ := h
  have HR := Lib.hid hr
  have HO := Lib.hid hown0
  have hlt := hr.lt
  obtain ⟨E, hE⟩ : ∃ E, ctlL st ba l = E := ⟨_, rfl⟩
  have HE := Lib.hid hE
  rw [hE] at CT hf hbe hlb
  have hEw : IntKind.i64.wrap (E + 1) = E + 1 := IntWalk.i64_in _ (by omega)
  unfold OpenRes at OP
  rw [ho] at OP
  obtain ⟨n, hn⟩ : ∃ n, l.length = n := ⟨_, rfl⟩
  have HN := Lib.hid hn
  have hn5 : n ≤ 100000 := by omega
  rw [hn] at HR HO
  have HLB := Lib.hid hlb
  have hE8 : (E + 1 - ba) % 8 = 0 := by have := HE.out; unfold ctlL at this; omega
  obtain ⟨N, hN⟩ : ∃ N : Nat, (N : Int) = E + 1 - ba := ⟨(E + 1 - ba).toNat, by omega⟩
  have hN0 : 0 < N ∧ N ≤ 4096 := by omega
  have hNw : IntKind.i64.wrap (E + 1 - ba) = (N : Int) := by rw [IntWalk.i64_in _ (by omega)]; exact hN.symm
  have HZ := Lib.hid fun w : World => Try.strings_Repeat ⟨#[0]⟩ 2048 w (by decide) (by show 1 * 2048 ≤ _; decide)
  have hcB : (ctl.toList.isEmpty = true ∧ ¬ n = 0) ∨ (ctl.toList.isEmpty = false ∧ (ctl.size : Int) = 2048) := by
    rcases hc with h | ⟨h, h3⟩
    · left
      refine ⟨by rw [h]; rfl, fun e => h0 ⟨List.eq_nil_of_length_eq_zero (by omega), h⟩⟩
    · right; exact ⟨isE_false h, by omega⟩
  have hfE : ¬ 4096 < E + 1 := by omega
  have HNI := Lib.hid hN
  have HBA := Lib.hid hba
  clear hE hr hc h0 ho hn hf hown0 hlb hN
  go_enter Try.func27, Try.ntmps27
  go_wp2_with fail
  refine CT.out.mono ?_
  rintro e w1 ⟨rfl, rfl⟩
  rcases hcB with ⟨hcB, hn0⟩ | ⟨hcB, hsI⟩
  · skip
    go_wp2_with fail
    refine OP.out.mono ?_
    rintro e w1 ⟨hb1, A, c, rfl, hown⟩
    have q := (HR.out.below hb1 hlt).cell
    clear hown
    have hs1 : St w w1 [] := St.call hb1 (St.start w)
    clear q
    have q := ((HR.out.below hb1 hlt).cell)
    go_upto_region 10 with fail
    clear q
    refine wp_region_held_drew (S := (fun w' => St w w' [])) (by kernel_rfl) (hs1.drew) (fun hHeld => ?_)
    refine wpAnyH_take (i := 2) (oi := ?o49) (v := ?v49) ?hi49 (by kernel_rfl) (by kernel_rfl) (by kernel_rfl) ?hq49 ?hy49 (by assumption) ?hr49
    case hi49 => (simp only [List.getElem?_toArray, List.getElem?_cons_succ, List.getElem?_cons_zero]; rfl)
    case hy49 => ((refine .inl ⟨by rfl, ?_⟩); intro w hS; go_simp; (try with_reducible rfl))
    case hq49 => exact fun _ _ _ h => h
    (simp only [Act.put, List.setIfInBounds_toArray, List.set_cons_zero, List.set_cons_succ])
    refine wpAnyH_take (i := 3) (oi := ?o50) (v := ?v50) ?hi50 (by kernel_rfl) (by kernel_rfl) (by kernel_rfl) ?hq50 ?hy50 (by assumption) ?hr50
    case hi50 => (simp only [List.getElem?_toArray, List.getElem?_cons_succ, List.getElem?_cons_zero]; rfl)
    case hy50 => ((refine .inl ⟨by rfl, ?_⟩); intro w hS; go_simp; (try with_reducible rfl))
    case hq50 => exact fun _ _ _ h => h
    (simp only [Act.put, List.setIfInBounds_toArray, List.set_cons_zero, List.set_cons_succ])
    refine wpAnyH_take (i := 4) (oi := ?o51) (v := ?v51) ?hi51 (by kernel_rfl) (by kernel_rfl) (by kernel_rfl) ?hq51 ?hy51 (by assumption) ?hr51
    case hi51 => (simp only [List.getElem?_toArray, List.getElem?_cons_succ, List.getElem?_cons_zero]; rfl)
    case hy51 => ((refine .inl ⟨by rfl, ?_⟩); intro w hS; go_simp; (try with_reducible rfl))
    case hq51 => exact fun _ _ _ h => h
    (simp only [Act.put, List.setIfInBounds_toArray, List.set_cons_zero, List.set_cons_succ])
    refine wpAnyH_take (i := 5) (oi := ?o52) (v := ?v52) ?hi52 (by kernel_rfl) (by kernel_rfl) (by kernel_rfl) ?hq52 ?hy52 (by assumption) ?hr52
    case hi52 => (simp only [List.getElem?_toArray, List.getElem?_cons_succ, List.getElem?_cons_zero]; rfl)
    case hy52 => ((refine .inl ⟨by rfl, ?_⟩); intro w hS; go_simp; (try with_reducible rfl))
    case hq52 => exact fun _ _ _ h => h
    (simp only [Act.put, List.setIfInBounds_toArray, List.set_cons_zero, List.set_cons_succ])
    refine wpAnyH_take (i := 6) (oi := ?o53) (v := ?v53) ?hi53 (by kernel_rfl) (by kernel_rfl) (by kernel_rfl) ?hq53 ?hy53 (by assumption) ?hr53
    case hi53 => (simp only [List.getElem?_toArray, List.getElem?_cons_succ, List.getElem?_cons_zero]; rfl)
    case hy53 => ((refine .inl ⟨by rfl, ?_⟩); intro w hS; have q := (HR.out.below hS.bel hlt).cell; go_simp; (try with_reducible rfl))
    case hq53 => exact fun _ _ _ h => h
    (simp only [Act.put, List.setIfInBounds_toArray, List.set_cons_zero, List.set_cons_succ])
    refine wpAnyH_take (i := 7) (oi := ?o54) (v := ?v54) ?hi54 (by kernel_rfl) (by kernel_rfl) (by kernel_rfl) ?hq54 ?hy54 (by assumption) ?hr54
    case hi54 => (simp only [List.getElem?_toArray, List.getElem?_cons_succ, List.getElem?_cons_zero]; rfl)
    case hy54 => ((refine .inl ⟨by rfl, ?_⟩); intro w hS; go_simp; (try with_reducible rfl))
    case hq54 => exact fun _ _ _ h => h
    (simp only [Act.put, List.setIfInBounds_toArray, List.set_cons_zero, List.set_cons_succ])
    refine wpAnyH_ready (rs := [0]) (by kernel_rfl) (by simp) ?_
    refine AllReadyH.cons rfl (fun K hK => ?_) AllReadyH.nil
    go_simp
    go_wp2_with ((refine (HZ.out _).mono ?_; rintro e w2 ⟨rfl, hb2⟩))
    refine hK.out _ _ (St.call hb2 hHeld) (fun hHeld1 => ?_)
    clear hK K
    (try simp only [Act.put, List.setIfInBounds_toArray, List.set_cons_zero, List.set_cons_succ])
    clear hHeld; have hHeld := hHeld1; clear hHeld1
    refine wpAnyH_ready (rs := [1]) (by kernel_rfl) (by simp) ?_
    refine AllReadyH.cons rfl (fun K hK => ?_) AllReadyH.nil
    go_simp
    refine hK.out _ _ (St.other hHeld _) (fun hHeld1 => ?_)
    clear hK K
    (try simp only [Act.put, List.setIfInBounds_toArray, List.set_cons_zero, List.set_cons_succ])
    refine wpAnyH_row0 (hHeld.new (g := w2.heap.size) rfl #[.string ⟨(Lib.repeatL [0] 2048).toArray⟩] 9) (fun hHeld2 => ?_)
    clear hHeld hHeld1; have hHeld := hHeld2; clear hHeld2
    refine wpAnyH_ready (rs := [8]) (by kernel_rfl) (by simp) ?_
    refine AllReadyH.cons rfl (fun K hK => ?_) AllReadyH.nil
    go_simp
    go_wp2_with ((refine (repeat_any w2.heap.size 0 1 N _ _ ((hHeld.at (i := 0) rfl).cell 0) (hHeld.lt (i := 0) rfl) (by omega)).mono ?_; rintro e w4 ⟨rfl, hown4, hb4⟩))
    refine hK.out _ _ (St.call hb4 hHeld) (fun hHeld1 => ?_)
    clear hK K
    (try simp only [Act.put, List.setIfInBounds_toArray, List.set_cons_zero, List.set_cons_succ])
    clear hHeld; have hHeld := hHeld1; clear hHeld1
    refine wpAnyH_take (i := 9) (oi := ?o55) (v := ?v55) ?hi55 (by kernel_rfl) (by kernel_rfl) (by kernel_rfl) ?hq55 ?hy55 (by assumption) ?hr55
    case hi55 => (simp only [List.getElem?_toArray, List.getElem?_cons_succ, List.getElem?_cons_zero]; rfl)
    case hy55 => ((refine .inl ⟨by rfl, ?_⟩); intro w hS; go_simp; (try with_reducible rfl))
    case hq55 => exact fun _ _ _ h => h
    (simp only [Act.put, List.setIfInBounds_toArray, List.set_cons_zero, List.set_cons_succ])
    refine wpAnyH_done (by kernel_rfl) ?_ _
    have hrow := own_row_full hown4
    have hb4 := hHeld.bel
    have hgb0 : w.heap.size ≤ w2.heap.size + 1 := by have := hHeld.base (i := 0) rfl; omega
    obtain ⟨gb, hgb⟩ : ∃ gb, w2.heap.size + 1 = gb := ⟨_, rfl⟩
    simp only [World.size_alloc, hgb] at hrow hgb0 ⊢
    have HB4 := Lib.hid hb4
    have HROW := Lib.hid hrow
    have q4 := (HR.out.below hb4 hlt).cell
    clear hown4 hrow hb4 hb2 hs1 hHeld
    go_wp2_with fail
    clear q4
    go_loopw [9, 56] (fun v i wr => ∃ k : Nat, k ≤ n ∧ i = .int .i64 k ∧ Hid (wr.heap[gb]? = some (.cells (strV (flRow ba N (l.take k))).toArray 9 (0, 0))) ∧ Below w.heap.size w wr) (fun _ i _ => n - (intOf i).toNat)
    case atStart => exact ⟨0, Nat.zero_le _, rfl, Lib.hid (by rw [List.take_zero]; show _ = some (Obj.cells (strV (List.replicate N (fillS 0))).toArray _ _); rw [← fill_repeat 0]; exact HROW.out), HB4.out⟩
    case round =>
      obtain ⟨k, hk, rfl, HRK, hbk⟩ := hrel
      by_cases hltk : k < n
      · obtain ⟨x, hx⟩ : ∃ x, l[k]? = some x := ⟨l[k]'(by rw [HN.out]; exact hltk), List.getElem?_eq_getElem _⟩
        obtain ⟨gl, cap, hv, _, hgl, _⟩ := own_form HO.out (by omega)
        injection hv with hA _ hc
        subst hA hc
        have hoL : w.ownsRow base0 114 2 (.slice (some ⟨gl, 0, none⟩) l.length cl) l.length (flat encP l) := by rw [HN.out]; exact HO.out
        obtain ⟨p0, p1⟩ := lastL_cells (own_all hoL hbk) hx
        have hltI : (k : Int) < (n : Int) := by omega
        have h0k : (0 : Int) ≤ (k : Int) := by omega
        have HX := Lib.hid hx
        obtain ⟨lx, bx⟩ := x
        have hj2 := HLB.out _ (List.mem_of_getElem? hx)
        dsimp only at p0 p1 hj2
        obtain ⟨j, hj⟩ : ∃ j : Nat, (j : Int) = lx - ba := ⟨(lx - ba).toNat, by have := HBA.out; omega⟩
        have hjw : IntKind.i64.wrap (lx - ba) = (j : Int) := by rw [IntWalk.i64_in _ (by have := HBA.out; omega)]; exact hj.symm
        have hjN : (j : Int) < (N : Int) := by have := HNI.out; omega
        have h0j : (0 : Int) ≤ (j : Int) := by omega
        have HJ := Lib.hid hj
        clear hx hj hj2
        have hbA := hbk.alloc hbk.size (.cells #[.int .i64 lx, .string bx] 114)
        have q5 := (HR.out.below hbA hlt).cell
        have hn9 := RowAt.new wr 114 #[.int .i64 lx, .string bx]
        have HR9 : Hid ((wr.alloc (.cells #[.int .i64 lx, .string bx] 114)).heap[gb]? = some (.cells (strV (flRow ba N (l.take k))).toArray 9 (0, 0))) := Lib.hid (by
          have hgl : gb < wr.heap.size := RowAt.lt (t := 9) (show RowAt wr gb _ _ from HRK.out)
          exact (Below.heap_alloc wr _ gb hgl).trans HRK.out)
        go_wp2_with fail
        generalize hW : wr.alloc (.cells #[.int .i64 lx, .string bx] 114) = W at *
        have c9 := hn9.cell
        have q6 : ∀ i, W.drew.cell? ⟨g, i, none⟩ = _ := q5
        generalize wr.heap.size = g9 at *
        go_still_tail 11, (by kernel_rfl)
        change wpList _ _ _ _ _ W.drew
        have c10 := cell_of_row W.drew gb j _ _ _ HR9.out
        have f10 := frozen_of_row W.drew gb j _ _ HR9.out
        rw [List.getElem?_toArray, show (strV (flRow ba N (l.take k)))[j]? = some (.string ((flRow ba N (l.take k))[j]?.getD blankS)) from by
          have hj := HJ.out
          unfold strV
          rw [List.getElem?_map]
          have hlen : j < (flRow ba N (l.take k)).length := by rw [flRow_length]; omega
          rw [List.getElem?_eq_getElem hlen]
          rfl] at c10
        have HBV := Lib.hid hbA.drew
        have HRV : Hid (RowAt W.drew gb 9 (strV (flRow ba N (l.take k))).toArray) := Lib.hid HR9.out
        generalize hV : W.drew = V at *
        go_wp2_with fail
        refine ⟨⟨k + 1, hltk, by go_num, Lib.hid ?_, HBV.out.setCell (p := ⟨gb, j, none⟩) hgb0 _⟩, by simp [intOf]; omega⟩
        have hset := HRV.out.set_ j (.string bx)
        have htk : l.take (k + 1) = l.take k ++ [⟨lx, bx⟩] := by rw [List.take_add_one, HX.out]; rfl
        rw [htk, flRow_snoc, show (lx - ba).toNat = j by have := HJ.out; omega]
        unfold strV at hset ⊢
        rw [List.map_set]
        rw [List.setIfInBounds_toArray] at hset
        exact hset
      · have hkn : k = n := by omega
        subst hkn
        have hge : ¬ (k : Int) < (k : Int) := by omega
        have HR4 : Hid (wr.heap[gb]? = some (.cells (strV (flRow ba N l)).toArray 9 (0, 0))) := Lib.hid (by have := HRK.out; rw [List.take_of_length_le (by rw [HN.out]; exact Nat.le_refl _)] at this; exact this)
        obtain ⟨R, hR⟩ : ∃ R, flRow ba N l = R := ⟨_, rfl⟩
        have hRl : R.length = N := by rw [← hR]; exact flRow_length _ _ _
        have HRE := Lib.hid hR
        have HRL := Lib.hid hRl
        rw [hR] at HR4
        clear hR hRl
        have hbk2 := hbk
        obtain ⟨W2, hW2⟩ : ∃ W2, W2 = wr := ⟨_, rfl⟩
        subst hW2
        have hR2 : flAll st ba l ctl = R ∧ R.length = N := ⟨by unfold flAll flCtl; rw [if_pos (List.isEmpty_iff.1 hcB), HE.out, show (E + 1 - ba).toNat = N by have := HNI.out; omega, HRE.out], HRL.out⟩
        have hr4 := HR4.out
        obtain ⟨R2, hRR⟩ : ∃ R2, R2 = R := ⟨_, rfl⟩
        subst hRR
        clear HR4 HRK HRE hbk
        go_wp2_with fail
        have HR2 := Lib.hid hR2
        have HR4 := Lib.hid hr4
        have hsW : St w W2 [(gb, 9, (strV R2).toArray)] := ⟨hbk2, by intro r hr; obtain rfl := List.mem_singleton.1 hr; exact ⟨hgb0, hr4⟩, List.pairwise_singleton _ _⟩
        clear hR2 hr4 hbk2
        go_loopw [10, 11] (fun v i wr => ∃ (j k : Nat) (A1 : Option Addr) (c1 : Nat), Hid (k = 8 * j) ∧ k ≤ N ∧ i = .int .i64 k ∧ v = .slice A1 j c1 ∧ wr.ownsRow w.heap.size 49 4 (.slice A1 j c1) j (flat encW (flWs gb ba R2 0 j)) ∧ St w wr [(gb, 9, (strV R2).toArray)]) (fun _ i _ => N - (intOf i).toNat)
        case atStart => exact ⟨0, 0, none, 0, Lib.hid rfl, Nat.zero_le _, rfl, rfl, World.ownsRow_nil _ _ _ _, hsW⟩
        case round =>
          clear hsW
          obtain ⟨j, k, A1, c1, HK, hk, rfl, rfl, hown, hst⟩ := hrel
          by_cases hltk : k < N
          · have hltI : (k : Int) < (N : Int) := by omega
            have h0k : (0 : Int) ≤ (k : Int) := by omega
            have hk8 : k + 8 ≤ N := by have := HK.out; have := HNI.out; omega
            have hk8I : (k : Int) + 8 ≤ (N : Int) := by omega
            have hw8 : IntKind.i64.wrap ((k : Int) + 8) = (k : Int) + 8 := IntWalk.i64_in _ (by omega)
            have hbaw : IntKind.i64.wrap (ba + (k : Int)) = ba + (k : Int) := IntWalk.i64_in _ (by have := HBA.out; have := HNI.out; omega)
            have h0k8 : (0 : Int) ≤ (k : Int) + 8 := by omega
            have hkk8 : (k : Int) ≤ (k : Int) + 8 := by omega
            have e8 : ((k : Int) + 8).toNat = k + 8 := by omega
            have HST := Lib.hid hst
            have HOW := Lib.hid hown
            have hszr := hst.bel.size
            clear hst hown
            go_upto_region 22 with fail
            refine wp_region_held_drew (S := (fun w' => St w w' [(gb, 9, (strV R2).toArray)])) (by kernel_rfl) (HST.out.drew) (fun hHeld => ?_)
            refine wpAnyH_take (i := 0) (oi := ?o1) (v := ?v1) ?hi1 (by kernel_rfl) (by kernel_rfl) (by kernel_rfl) ?hq1 ?hy1 (by assumption) ?hr1
            case hi1 => (simp only [List.getElem?_toArray, List.getElem?_cons_zero]; rfl)
            case hy1 => ((refine .inl ⟨by rfl, ?_⟩); intro w hS; go_simp; (try with_reducible rfl))
            case hq1 => exact fun _ _ _ h => h
            (simp only [Act.put, List.setIfInBounds_toArray, List.set_cons_zero, List.set_cons_succ])
            refine wpAnyH_take (i := 1) (oi := ?o2) (v := ?v2) ?hi2 (by kernel_rfl) (by kernel_rfl) (by kernel_rfl) ?hq2 ?hy2 (by assumption) ?hr2
            case hi2 => (simp only [List.getElem?_toArray, List.getElem?_cons_succ, List.getElem?_cons_zero]; rfl)
            case hy2 => ((refine .inl ⟨by rfl, ?_⟩); intro w hS; go_simp; (try with_reducible rfl))
            case hq2 => exact fun _ _ _ h => h
            (simp only [Act.put, List.setIfInBounds_toArray, List.set_cons_zero, List.set_cons_succ])
            refine wpAnyH_take (i := 2) (oi := ?o3) (v := ?v3) ?hi3 (by kernel_rfl) (by kernel_rfl) (by kernel_rfl) ?hq3 ?hy3 (by assumption) ?hr3
            case hi3 => (simp only [List.getElem?_toArray, List.getElem?_cons_succ, List.getElem?_cons_zero]; rfl)
            case hy3 => ((refine .inl ⟨by rfl, ?_⟩); intro w hS; go_simp; (try with_reducible rfl))
            case hq3 => exact fun _ _ _ h => h
            (simp only [Act.put, List.setIfInBounds_toArray, List.set_cons_zero, List.set_cons_succ])
            refine wpAnyH_take (i := 3) (oi := ?o4) (v := ?v4) ?hi4 (by kernel_rfl) (by kernel_rfl) (by kernel_rfl) ?hq4 ?hy4 (by assumption) ?hr4
            case hi4 => (simp only [List.getElem?_toArray, List.getElem?_cons_succ, List.getElem?_cons_zero]; rfl)
            case hy4 => ((refine .inl ⟨by rfl, ?_⟩); intro w hS; go_simp; (try with_reducible rfl))
            case hq4 => exact fun _ _ _ h => h
            (simp only [Act.put, List.setIfInBounds_toArray, List.set_cons_zero, List.set_cons_succ])
            refine wpAnyH_take (i := 4) (oi := ?o5) (v := ?v5) ?hi5 (by kernel_rfl) (by kernel_rfl) (by kernel_rfl) ?hq5 ?hy5 (by assumption) ?hr5
            case hi5 => (simp only [List.getElem?_toArray, List.getElem?_cons_succ, List.getElem?_cons_zero]; rfl)
            case hy5 => ((refine .inl ⟨by rfl, ?_⟩); intro w hS; have q := (HR.out.below hS.bel hlt).cell; go_simp; (try with_reducible rfl))
            case hq5 => exact fun _ _ _ h => h
            (simp only [Act.put, List.setIfInBounds_toArray, List.set_cons_zero, List.set_cons_succ])
            refine wpAnyH_take (i := 5) (oi := ?o6) (v := ?v6) ?hi6 (by kernel_rfl) (by kernel_rfl) (by kernel_rfl) ?hq6 ?hy6 (by assumption) ?hr6
            case hi6 => (simp only [List.getElem?_toArray, List.getElem?_cons_succ, List.getElem?_cons_zero]; rfl)
            case hy6 => ((refine .inl ⟨by rfl, ?_⟩); intro w hS; go_simp; (try with_reducible rfl))
            case hq6 => exact fun _ _ _ h => h
            (simp only [Act.put, List.setIfInBounds_toArray, List.set_cons_zero, List.set_cons_succ])
            refine wpAnyH_take (i := 6) (oi := ?o7) (v := ?v7) ?hi7 (by kernel_rfl) (by kernel_rfl) (by kernel_rfl) ?hq7 ?hy7 (by assumption) ?hr7
            case hi7 => (simp only [List.getElem?_toArray, List.getElem?_cons_succ, List.getElem?_cons_zero]; rfl)
            case hy7 => ((refine .inl ⟨by rfl, ?_⟩); intro w hS; go_simp; (try with_reducible rfl))
            case hq7 => exact fun _ _ _ h => h
            (simp only [Act.put, List.setIfInBounds_toArray, List.set_cons_zero, List.set_cons_succ])
            refine wpAnyH_take (i := 7) (oi := ?o8) (v := ?v8) ?hi8 (by kernel_rfl) (by kernel_rfl) (by kernel_rfl) ?hq8 ?hy8 (by assumption) ?hr8
            case hi8 => (simp only [List.getElem?_toArray, List.getElem?_cons_succ, List.getElem?_cons_zero]; rfl)
            case hy8 => ((refine .inl ⟨by rfl, ?_⟩); intro w hS; go_simp; (try with_reducible rfl))
            case hq8 => exact fun _ _ _ h => h
            (simp only [Act.put, List.setIfInBounds_toArray, List.set_cons_zero, List.set_cons_succ])
            refine wpAnyH_take (i := 8) (oi := ?o9) (v := ?v9) ?hi9 (by kernel_rfl) (by kernel_rfl) (by kernel_rfl) ?hq9 ?hy9 (by assumption) ?hr9
            case hi9 => (simp only [List.getElem?_toArray, List.getElem?_cons_succ, List.getElem?_cons_zero]; rfl)
            case hy9 => ((refine .inl ⟨by rfl, ?_⟩); intro w hS; go_simp; (try with_reducible rfl))
            case hq9 => exact fun _ _ _ h => h
            (simp only [Act.put, List.setIfInBounds_toArray, List.set_cons_zero, List.set_cons_succ])
            refine wpAnyH_take (i := 9) (oi := ?o10) (v := ?v10) ?hi10 (by kernel_rfl) (by kernel_rfl) (by kernel_rfl) ?hq10 ?hy10 (by assumption) ?hr10
            case hi10 => (simp only [List.getElem?_toArray, List.getElem?_cons_succ, List.getElem?_cons_zero]; rfl)
            case hy10 => ((refine .inl ⟨by rfl, ?_⟩); intro w hS; go_simp; (try with_reducible rfl))
            case hq10 => exact fun _ _ _ h => h
            (simp only [Act.put, List.setIfInBounds_toArray, List.set_cons_zero, List.set_cons_succ])
            refine wpAnyH_take (i := 10) (oi := ?o11) (v := ?v11) ?hi11 (by kernel_rfl) (by kernel_rfl) (by kernel_rfl) ?hq11 ?hy11 (by assumption) ?hr11
            case hi11 => (simp only [List.getElem?_toArray, List.getElem?_cons_succ, List.getElem?_cons_zero]; rfl)
            case hy11 => ((refine .inl ⟨by rfl, ?_⟩); intro w hS; go_simp; (try with_reducible rfl))
            case hq11 => exact fun _ _ _ h => h
            (simp only [Act.put, List.setIfInBounds_toArray, List.set_cons_zero, List.set_cons_succ])
            refine wpAnyH_take (i := 11) (oi := ?o12) (v := ?v12) ?hi12 (by kernel_rfl) (by kernel_rfl) (by kernel_rfl) ?hq12 ?hy12 (by assumption) ?hr12
            case hi12 => (simp only [List.getElem?_toArray, List.getElem?_cons_succ, List.getElem?_cons_zero]; rfl)
            case hy12 => ((refine .inl ⟨by rfl, ?_⟩); intro w hS; go_simp; (try with_reducible rfl))
            case hq12 => exact fun _ _ _ h => h
            (simp only [Act.put, List.setIfInBounds_toArray, List.set_cons_zero, List.set_cons_succ])
            refine wpAnyH_take (i := 12) (oi := ?o13) (v := ?v13) ?hi13 (by kernel_rfl) (by kernel_rfl) (by kernel_rfl) ?hq13 ?hy13 (by assumption) ?hr13
            case hi13 => (simp only [List.getElem?_toArray, List.getElem?_cons_succ, List.getElem?_cons_zero]; rfl)
            case hy13 => ((refine .inl ⟨by rfl, ?_⟩); intro w hS; go_simp; (try with_reducible rfl))
            case hq13 => exact fun _ _ _ h => h
            (simp only [Act.put, List.setIfInBounds_toArray, List.set_cons_zero, List.set_cons_succ])
            refine wpAnyH_take (i := 13) (oi := ?o14) (v := ?v14) ?hi14 (by kernel_rfl) (by kernel_rfl) (by kernel_rfl) ?hq14 ?hy14 (by assumption) ?hr14
            case hi14 => (simp only [List.getElem?_toArray, List.getElem?_cons_succ, List.getElem?_cons_zero]; rfl)
            case hy14 => ((refine .inl ⟨by rfl, ?_⟩); intro w hS; go_simp; (try with_reducible rfl))
            case hq14 => exact fun _ _ _ h => h
            (simp only [Act.put, List.setIfInBounds_toArray, List.set_cons_zero, List.set_cons_succ])
            refine wpAnyH_take (i := 14) (oi := ?o15) (v := ?v15) ?hi15 (by kernel_rfl) (by kernel_rfl) (by kernel_rfl) ?hq15 ?hy15 (by assumption) ?hr15
            case hi15 => (simp only [List.getElem?_toArray, List.getElem?_cons_succ, List.getElem?_cons_zero]; rfl)
            case hy15 => ((refine .inl ⟨by rfl, ?_⟩); intro w hS; go_simp; (try with_reducible rfl))
            case hq15 => exact fun _ _ _ h => h
            (simp only [Act.put, List.setIfInBounds_toArray, List.set_cons_zero, List.set_cons_succ])
            refine wpAnyH_ready (rs := [15]) (by kernel_rfl) (by simp) ?_
            refine AllReadyH.cons rfl (fun K hK => ?_) AllReadyH.nil
            go_simp
            refine hK.out _ _ (hHeld.other _) (fun hHeld1 => ?_)
            clear hK K
            (try simp only [Act.put, List.setIfInBounds_toArray, List.set_cons_zero, List.set_cons_succ])
            clear hHeld; have hHeld := hHeld1; clear hHeld1
            refine wpAnyH_ready (rs := [16]) (by kernel_rfl) (by simp) ?_
            refine AllReadyH.cons rfl (fun K hK => ?_) AllReadyH.nil
            refine step_appNA (w := wr.drew) HOW.out.drew (H := wr.heap.size) rfl info_wr Try.underlying24 rfl (by decide) (us := [.int .i64 (ba + (k : Int)), .slice (some ⟨gb, k, none⟩) 8 8, .bool false, .bool false]) rfl (by unfold maxLen; have := HK.out; omega) (by have := HK.out; omega) hszr (by intro u hu; simp only [List.mem_cons, List.not_mem_nil, or_false] at hu; rcases hu with rfl | rfl | rfl | rfl <;> rfl) rfl rfl (by rfl) (by rfl) rfl ?_; intro v5 w5 hown5 hg5 hbl5; have hst5 := HST.out.drew.grown_ty HOW.out.drew hg5 (Nat.le_refl _) (by intro r hr; obtain rfl := List.mem_singleton.1 hr; show 9 ≠ 49; decide); obtain ⟨A5, c5, hv5⟩ := own_slice hown5; subst hv5
            refine hK.out _ _ (hst5) (fun hHeld1 => ?_)
            clear hK K
            (try simp only [Act.put, List.setIfInBounds_toArray])
            clear hHeld; have hHeld := hHeld1; clear hHeld1
            refine wpAnyH_take (i := 17) (oi := ?o16) (v := ?v16) ?hi16 (by kernel_rfl) (by kernel_rfl) (by kernel_rfl) ?hq16 ?hy16 (by assumption) ?hr16
            case hi16 => (simp only [List.getElem?_toArray, List.getElem?_cons_succ, List.getElem?_cons_zero]; rfl)
            case hy16 => ((refine .inl ⟨by rfl, ?_⟩); intro w hS; go_simp; (try with_reducible rfl))
            case hq16 => exact fun _ _ _ h => h
            (simp only [Act.put])
            refine wpAnyH_done (by kernel_rfl) ?_ _
            rw [flWs_step gb ba R2 j k HK.out (by rw [HR2.out.2]; exact hk8)] at hown5
            go_wp2_with fail
            go_roundw
            case rel => exact ⟨j + 1, k + 8, A5, c5, Lib.hid (by have := HK.out; omega), hk8, by go_num, rfl, hown5, hst5⟩
            case measure => simp [intOf]; omega
          · have hkN : k = N := by omega
            have hge : ¬ (k : Int) < (N : Int) := by omega
            obtain ⟨j1, rfl⟩ : ∃ j1, j = j1 + 1 := ⟨j - 1, by have := HK.out; omega⟩
            obtain ⟨go, cap, hv, hgo, hgol, _⟩ := own_form hown (by omega)
            injection hv with hA _ hc
            subst hA hc
            have hj1b : (j1 : Int) ≤ 4096 := by have := HK.out; omega
            have h0j : (0 : Int) ≤ (j1 : Int) := by omega
            have hHK := HK.out
            have c2 := hown.cellAt (j1 * 4 + 2) (by omega)
            have f2 := hown.frozenAt (j1 * 4 + 2)
            have hlenX := hown.1
            obtain ⟨u2, hu2⟩ : ∃ u2, (flat encW (flWs gb ba R2 0 (j1 + 1)))[j1 * 4 + 2]? = some u2 := ⟨_, List.getElem?_eq_getElem (by omega)⟩
            rw [hu2] at c2
            have hown6 := (hown.stored (j1 * 4 + 2) (.bool true)).1
            have hst6 := hst.grown_ty hown (hown.stored (j1 * 4 + 2) (.bool true)).2 (Nat.le_refl _) (by intro r hr; obtain rfl := List.mem_singleton.1 hr; show 9 ≠ 49; decide)
            have hsync := flat_sync gb ba R2 j1
            rw [show 4 * j1 + 2 = j1 * 4 + 2 by omega] at hsync
            rw [hsync] at hown6
            clear hsync
            have HOW6 : Hid _ := Lib.hid hown6
            have HST6 := Lib.hid hst6
            have HKN := Lib.hid (show N = 8 * (j1 + 1) by omega)
            clear hu2 hown hst hown6 hst6 hlenX hHK hkN
            go_upto_region 24 with fail
            generalize wr.setCell ⟨go, j1 * 4 + 2, none⟩ (.bool true) = W6 at *
            have q6 := (HR.out.below HST6.out.bel hlt).cell
            have f6 := (HR.out.below HST6.out.bel hlt).frozen
            go_wp2_with fail
            go_ret2
            exact flush_res HE.out HNI.out HKN.out (Nat.succ_pos _) HR2.out.1 HR2.out.2 hlt HR.out HST6.out HOW6.out
  · rcases Nat.eq_zero_or_pos n with hn0 | hn0
    · have hn1 := hn0
      subst hn1
      clear hn0
      go_wp2_with fail
      refine OP.out.mono ?_
      rintro e w1 ⟨hb1, A, c, rfl, hown⟩
      have q := (HR.out.below hb1 hlt).cell
      clear hown
      have hs1 : St w w1 [] := St.call hb1 (St.start w)
      clear q
      have q := ((HR.out.below hb1 hlt).cell)
      go_upto_region 10 with fail
      clear q
      refine wp_region_held_drew (S := (fun w' => St w w' [])) (by kernel_rfl) (hs1.drew) (fun hHeld => ?_)
      refine wpAnyH_take (i := 2) (oi := ?o56) (v := ?v56) ?hi56 (by kernel_rfl) (by kernel_rfl) (by kernel_rfl) ?hq56 ?hy56 (by assumption) ?hr56
      case hi56 => (simp only [List.getElem?_toArray, List.getElem?_cons_succ, List.getElem?_cons_zero]; rfl)
      case hy56 => ((refine .inl ⟨by rfl, ?_⟩); intro w hS; go_simp; (try with_reducible rfl))
      case hq56 => exact fun _ _ _ h => h
      (simp only [Act.put, List.setIfInBounds_toArray, List.set_cons_zero, List.set_cons_succ])
      refine wpAnyH_take (i := 3) (oi := ?o57) (v := ?v57) ?hi57 (by kernel_rfl) (by kernel_rfl) (by kernel_rfl) ?hq57 ?hy57 (by assumption) ?hr57
      case hi57 => (simp only [List.getElem?_toArray, List.getElem?_cons_succ, List.getElem?_cons_zero]; rfl)
      case hy57 => ((refine .inl ⟨by rfl, ?_⟩); intro w hS; go_simp; (try with_reducible rfl))
      case hq57 => exact fun _ _ _ h => h
      (simp only [Act.put, List.setIfInBounds_toArray, List.set_cons_zero, List.set_cons_succ])
      refine wpAnyH_take (i := 4) (oi := ?o58) (v := ?v58) ?hi58 (by kernel_rfl) (by kernel_rfl) (by kernel_rfl) ?hq58 ?hy58 (by assumption) ?hr58
      case hi58 => (simp only [List.getElem?_toArray, List.getElem?_cons_succ, List.getElem?_cons_zero]; rfl)
      case hy58 => ((refine .inl ⟨by rfl, ?_⟩); intro w hS; go_simp; (try with_reducible rfl))
      case hq58 => exact fun _ _ _ h => h
      (simp only [Act.put, List.setIfInBounds_toArray, List.set_cons_zero, List.set_cons_succ])
      refine wpAnyH_take (i := 5) (oi := ?o59) (v := ?v59) ?hi59 (by kernel_rfl) (by kernel_rfl) (by kernel_rfl) ?hq59 ?hy59 (by assumption) ?hr59
      case hi59 => (simp only [List.getElem?_toArray, List.getElem?_cons_succ, List.getElem?_cons_zero]; rfl)
      case hy59 => ((refine .inl ⟨by rfl, ?_⟩); intro w hS; go_simp; (try with_reducible rfl))
      case hq59 => exact fun _ _ _ h => h
      (simp only [Act.put, List.setIfInBounds_toArray, List.set_cons_zero, List.set_cons_succ])
      refine wpAnyH_take (i := 6) (oi := ?o60) (v := ?v60) ?hi60 (by kernel_rfl) (by kernel_rfl) (by kernel_rfl) ?hq60 ?hy60 (by assumption) ?hr60
      case hi60 => (simp only [List.getElem?_toArray, List.getElem?_cons_succ, List.getElem?_cons_zero]; rfl)
      case hy60 => ((refine .inl ⟨by rfl, ?_⟩); intro w hS; have q := (HR.out.below hS.bel hlt).cell; go_simp; (try with_reducible rfl))
      case hq60 => exact fun _ _ _ h => h
      (simp only [Act.put, List.setIfInBounds_toArray, List.set_cons_zero, List.set_cons_succ])
      refine wpAnyH_take (i := 7) (oi := ?o61) (v := ?v61) ?hi61 (by kernel_rfl) (by kernel_rfl) (by kernel_rfl) ?hq61 ?hy61 (by assumption) ?hr61
      case hi61 => (simp only [List.getElem?_toArray, List.getElem?_cons_succ, List.getElem?_cons_zero]; rfl)
      case hy61 => ((refine .inl ⟨by rfl, ?_⟩); intro w hS; go_simp; (try with_reducible rfl))
      case hq61 => exact fun _ _ _ h => h
      (simp only [Act.put, List.setIfInBounds_toArray, List.set_cons_zero, List.set_cons_succ])
      refine wpAnyH_ready (rs := [0]) (by kernel_rfl) (by simp) ?_
      refine AllReadyH.cons rfl (fun K hK => ?_) AllReadyH.nil
      go_simp
      go_wp2_with ((refine (HZ.out _).mono ?_; rintro e w2 ⟨rfl, hb2⟩))
      refine hK.out _ _ (St.call hb2 hHeld) (fun hHeld1 => ?_)
      clear hK K
      (try simp only [Act.put, List.setIfInBounds_toArray, List.set_cons_zero, List.set_cons_succ])
      clear hHeld; have hHeld := hHeld1; clear hHeld1
      refine wpAnyH_ready (rs := [1]) (by kernel_rfl) (by simp) ?_
      refine AllReadyH.cons rfl (fun K hK => ?_) AllReadyH.nil
      go_simp
      refine hK.out _ _ (St.other hHeld _) (fun hHeld1 => ?_)
      clear hK K
      (try simp only [Act.put, List.setIfInBounds_toArray, List.set_cons_zero, List.set_cons_succ])
      refine wpAnyH_row0 (hHeld.new (g := w2.heap.size) rfl #[.string ⟨(Lib.repeatL [0] 2048).toArray⟩] 9) (fun hHeld2 => ?_)
      clear hHeld hHeld1; have hHeld := hHeld2; clear hHeld2
      refine wpAnyH_ready (rs := [8]) (by kernel_rfl) (by simp) ?_
      refine AllReadyH.cons rfl (fun K hK => ?_) AllReadyH.nil
      go_simp
      go_wp2_with ((refine (repeat_any w2.heap.size 0 1 N _ _ ((hHeld.at (i := 0) rfl).cell 0) (hHeld.lt (i := 0) rfl) (by omega)).mono ?_; rintro e w4 ⟨rfl, hown4, hb4⟩))
      refine hK.out _ _ (St.call hb4 hHeld) (fun hHeld1 => ?_)
      clear hK K
      (try simp only [Act.put, List.setIfInBounds_toArray, List.set_cons_zero, List.set_cons_succ])
      clear hHeld; have hHeld := hHeld1; clear hHeld1
      refine wpAnyH_take (i := 9) (oi := ?o62) (v := ?v62) ?hi62 (by kernel_rfl) (by kernel_rfl) (by kernel_rfl) ?hq62 ?hy62 (by assumption) ?hr62
      case hi62 => (simp only [List.getElem?_toArray, List.getElem?_cons_succ, List.getElem?_cons_zero]; rfl)
      case hy62 => ((refine .inl ⟨by rfl, ?_⟩); intro w hS; go_simp; (try with_reducible rfl))
      case hq62 => exact fun _ _ _ h => h
      (simp only [Act.put, List.setIfInBounds_toArray, List.set_cons_zero, List.set_cons_succ])
      refine wpAnyH_done (by kernel_rfl) ?_ _
      have hrow := own_row_full hown4
      have hb4 := hHeld.bel
      have hgb0 : w.heap.size ≤ w2.heap.size + 1 := by have := hHeld.base (i := 0) rfl; omega
      obtain ⟨gb, hgb⟩ : ∃ gb, w2.heap.size + 1 = gb := ⟨_, rfl⟩
      simp only [World.size_alloc, hgb] at hrow hgb0 ⊢
      have HB4 := Lib.hid hb4
      have HROW := Lib.hid hrow
      have q4 := (HR.out.below hb4 hlt).cell
      clear hown4 hrow hb4 hb2 hs1 hHeld
      go_wp2_with fail
      clear q4
      go_loopw [9, 56] (fun v i wr => ∃ k : Nat, k ≤ 0 ∧ i = .int .i64 k ∧ Hid (wr.heap[gb]? = some (.cells (strV (flRow ba N (l.take k))).toArray 9 (0, 0))) ∧ Below w.heap.size w wr) (fun _ i _ => 0 - (intOf i).toNat)
      case atStart => exact ⟨0, Nat.zero_le _, rfl, Lib.hid (by rw [List.take_zero]; show _ = some (Obj.cells (strV (List.replicate N (fillS 0))).toArray _ _); rw [← fill_repeat 0]; exact HROW.out), HB4.out⟩
      case round =>
        obtain ⟨k, hk, rfl, HRK, hbk⟩ := hrel
        by_cases hltk : k < 0
        · exact absurd hltk (by omega)
        · have hkn : k = 0 := by omega
          subst hkn
          have hge : ¬ (0 : Int) < (0 : Int) := by omega
          have HR4 : Hid (wr.heap[gb]? = some (.cells (strV (flRow ba N l)).toArray 9 (0, 0))) := Lib.hid (by have := HRK.out; rw [List.take_of_length_le (by rw [HN.out]; exact Nat.le_refl _)] at this; exact this)
          obtain ⟨R, hR⟩ : ∃ R, flRow ba N l = R := ⟨_, rfl⟩
          have hRl : R.length = N := by rw [← hR]; exact flRow_length _ _ _
          have HRE := Lib.hid hR
          have HRL := Lib.hid hRl
          rw [hR] at HR4
          clear hR hRl
          have eN : ((N : Int) - 1).toNat = N - 1 := by omega
          have h0N : (0 : Int) ≤ (N : Int) - 1 := by omega
          have c17 := cell_of_row wr gb (N - 1) _ _ _ HR4.out
          have f17 := frozen_of_row wr gb (N - 1) _ _ HR4.out
          rw [List.getElem?_toArray, show (strV R)[N - 1]? = some (.string (R[N - 1]?.getD blankS)) from by
            unfold strV
            rw [List.getElem?_map, List.getElem?_eq_getElem (by have := HRL.out; omega)]
            rfl] at c17
          have hr3 : RowAt wr gb 9 (strV R).toArray := HR4.out
          have hr4 := hr3.set_ (N - 1) (.string ctl)
          have hbk2 := hbk.setCell (p := ⟨gb, N - 1, none⟩) hgb0 (.string ctl)
          rw [List.setIfInBounds_toArray, show (strV R).set (N - 1) (.string ctl) = strV (R.set (N - 1) ctl) by unfold strV; rw [List.map_set]] at hr4
          have hR2 : flAll st ba l ctl = R.set (N - 1) ctl ∧ (R.set (N - 1) ctl).length = N := ⟨by unfold flAll flCtl; rw [if_neg (fun e => by rw [e] at hcB; cases hcB), HE.out, show (E + 1 - ba).toNat = N by have := HNI.out; omega, HRE.out, HRL.out], by rw [List.length_set]; exact HRL.out⟩
          have HR17 := Lib.hid (And.intro hr4 (And.intro hbk2 hR2))
          clear HR4 HRK HRE hbk hr3 hr4 hbk2 hR2
          obtain ⟨R2, hRR⟩ : ∃ R2, R2 = R.set (N - 1) ctl := ⟨_, rfl⟩
          rw [← hRR] at HR17
          clear hRR
          go_wp2_with fail
          obtain ⟨hr4, hbk2, hR2⟩ := HR17.out
          clear HR17 c17 f17
          generalize wr.setCell ⟨gb, N - 1, none⟩ (.string ctl) = W2 at *
          have HR2 := Lib.hid hR2
          have HR4 := Lib.hid hr4
          have hsW : St w W2 [(gb, 9, (strV R2).toArray)] := ⟨hbk2, by intro r hr; obtain rfl := List.mem_singleton.1 hr; exact ⟨hgb0, hr4⟩, List.pairwise_singleton _ _⟩
          clear hR2 hr4 hbk2
          go_loopw [10, 11] (fun v i wr => ∃ (j k : Nat) (A1 : Option Addr) (c1 : Nat), Hid (k = 8 * j) ∧ k ≤ N ∧ i = .int .i64 k ∧ v = .slice A1 j c1 ∧ wr.ownsRow w.heap.size 49 4 (.slice A1 j c1) j (flat encW (flWs gb ba R2 0 j)) ∧ St w wr [(gb, 9, (strV R2).toArray)]) (fun _ i _ => N - (intOf i).toNat)
          case atStart => exact ⟨0, 0, none, 0, Lib.hid rfl, Nat.zero_le _, rfl, rfl, World.ownsRow_nil _ _ _ _, hsW⟩
          case round =>
            clear hsW
            obtain ⟨j, k, A1, c1, HK, hk, rfl, rfl, hown, hst⟩ := hrel
            by_cases hltk : k < N
            · have hltI : (k : Int) < (N : Int) := by omega
              have h0k : (0 : Int) ≤ (k : Int) := by omega
              have hk8 : k + 8 ≤ N := by have := HK.out; have := HNI.out; omega
              have hk8I : (k : Int) + 8 ≤ (N : Int) := by omega
              have hw8 : IntKind.i64.wrap ((k : Int) + 8) = (k : Int) + 8 := IntWalk.i64_in _ (by omega)
              have hbaw : IntKind.i64.wrap (ba + (k : Int)) = ba + (k : Int) := IntWalk.i64_in _ (by have := HBA.out; have := HNI.out; omega)
              have h0k8 : (0 : Int) ≤ (k : Int) + 8 := by omega
              have hkk8 : (k : Int) ≤ (k : Int) + 8 := by omega
              have e8 : ((k : Int) + 8).toNat = k + 8 := by omega
              have HST := Lib.hid hst
              have HOW := Lib.hid hown
              have hszr := hst.bel.size
              clear hst hown
              go_upto_region 22 with fail
              refine wp_region_held_drew (S := (fun w' => St w w' [(gb, 9, (strV R2).toArray)])) (by kernel_rfl) (HST.out.drew) (fun hHeld => ?_)
              refine wpAnyH_take (i := 0) (oi := ?o17) (v := ?v17) ?hi17 (by kernel_rfl) (by kernel_rfl) (by kernel_rfl) ?hq17 ?hy17 (by assumption) ?hr17
              case hi17 => (simp only [List.getElem?_toArray, List.getElem?_cons_zero]; rfl)
              case hy17 => ((refine .inl ⟨by rfl, ?_⟩); intro w hS; go_simp; (try with_reducible rfl))
              case hq17 => exact fun _ _ _ h => h
              (simp only [Act.put, List.setIfInBounds_toArray, List.set_cons_zero, List.set_cons_succ])
              refine wpAnyH_take (i := 1) (oi := ?o18) (v := ?v18) ?hi18 (by kernel_rfl) (by kernel_rfl) (by kernel_rfl) ?hq18 ?hy18 (by assumption) ?hr18
              case hi18 => (simp only [List.getElem?_toArray, List.getElem?_cons_succ, List.getElem?_cons_zero]; rfl)
              case hy18 => ((refine .inl ⟨by rfl, ?_⟩); intro w hS; go_simp; (try with_reducible rfl))
              case hq18 => exact fun _ _ _ h => h
              (simp only [Act.put, List.setIfInBounds_toArray, List.set_cons_zero, List.set_cons_succ])
              refine wpAnyH_take (i := 2) (oi := ?o19) (v := ?v19) ?hi19 (by kernel_rfl) (by kernel_rfl) (by kernel_rfl) ?hq19 ?hy19 (by assumption) ?hr19
              case hi19 => (simp only [List.getElem?_toArray, List.getElem?_cons_succ, List.getElem?_cons_zero]; rfl)
              case hy19 => ((refine .inl ⟨by rfl, ?_⟩); intro w hS; go_simp; (try with_reducible rfl))
              case hq19 => exact fun _ _ _ h => h
              (simp only [Act.put, List.setIfInBounds_toArray, List.set_cons_zero, List.set_cons_succ])
              refine wpAnyH_take (i := 3) (oi := ?o20) (v := ?v20) ?hi20 (by kernel_rfl) (by kernel_rfl) (by kernel_rfl) ?hq20 ?hy20 (by assumption) ?hr20
              case hi20 => (simp only [List.getElem?_toArray, List.getElem?_cons_succ, List.getElem?_cons_zero]; rfl)
              case hy20 => ((refine .inl ⟨by rfl, ?_⟩); intro w hS; go_simp; (try with_reducible rfl))
              case hq20 => exact fun _ _ _ h => h
              (simp only [Act.put, List.setIfInBounds_toArray, List.set_cons_zero, List.set_cons_succ])
              refine wpAnyH_take (i := 4) (oi := ?o21) (v := ?v21) ?hi21 (by kernel_rfl) (by kernel_rfl) (by kernel_rfl) ?hq21 ?hy21 (by assumption) ?hr21
              case hi21 => (simp only [List.getElem?_toArray, List.getElem?_cons_succ, List.getElem?_cons_zero]; rfl)
              case hy21 => ((refine .inl ⟨by rfl, ?_⟩); intro w hS; have q := (HR.out.below hS.bel hlt).cell; go_simp; (try with_reducible rfl))
              case hq21 => exact fun _ _ _ h => h
              (simp only [Act.put, List.setIfInBounds_toArray, List.set_cons_zero, List.set_cons_succ])
              refine wpAnyH_take (i := 5) (oi := ?o22) (v := ?v22) ?hi22 (by kernel_rfl) (by kernel_rfl) (by kernel_rfl) ?hq22 ?hy22 (by assumption) ?hr22
              case hi22 => (simp only [List.getElem?_toArray, List.getElem?_cons_succ, List.getElem?_cons_zero]; rfl)
              case hy22 => ((refine .inl ⟨by rfl, ?_⟩); intro w hS; go_simp; (try with_reducible rfl))
              case hq22 => exact fun _ _ _ h => h
              (simp only [Act.put, List.setIfInBounds_toArray, List.set_cons_zero, List.set_cons_succ])
              refine wpAnyH_take (i := 6) (oi := ?o23) (v := ?v23) ?hi23 (by kernel_rfl) (by kernel_rfl) (by kernel_rfl) ?hq23 ?hy23 (by assumption) ?hr23
              case hi23 => (simp only [List.getElem?_toArray, List.getElem?_cons_succ, List.getElem?_cons_zero]; rfl)
              case hy23 => ((refine .inl ⟨by rfl, ?_⟩); intro w hS; go_simp; (try with_reducible rfl))
              case hq23 => exact fun _ _ _ h => h
              (simp only [Act.put, List.setIfInBounds_toArray, List.set_cons_zero, List.set_cons_succ])
              refine wpAnyH_take (i := 7) (oi := ?o24) (v := ?v24) ?hi24 (by kernel_rfl) (by kernel_rfl) (by kernel_rfl) ?hq24 ?hy24 (by assumption) ?hr24
              case hi24 => (simp only [List.getElem?_toArray, List.getElem?_cons_succ, List.getElem?_cons_zero]; rfl)
              case hy24 => ((refine .inl ⟨by rfl, ?_⟩); intro w hS; go_simp; (try with_reducible rfl))
              case hq24 => exact fun _ _ _ h => h
              (simp only [Act.put, List.setIfInBounds_toArray, List.set_cons_zero, List.set_cons_succ])
              refine wpAnyH_take (i := 8) (oi := ?o25) (v := ?v25) ?hi25 (by kernel_rfl) (by kernel_rfl) (by kernel_rfl) ?hq25 ?hy25 (by assumption) ?hr25
              case hi25 => (simp only [List.getElem?_toArray, List.getElem?_cons_succ, List.getElem?_cons_zero]; rfl)
              case hy25 => ((refine .inl ⟨by rfl, ?_⟩); intro w hS; go_simp; (try with_reducible rfl))
              case hq25 => exact fun _ _ _ h => h
              (simp only [Act.put, List.setIfInBounds_toArray, List.set_cons_zero, List.set_cons_succ])
              refine wpAnyH_take (i := 9) (oi := ?o26) (v := ?v26) ?hi26 (by kernel_rfl) (by kernel_rfl) (by kernel_rfl) ?hq26 ?hy26 (by assumption) ?hr26
              case hi26 => (simp only [List.getElem?_toArray, List.getElem?_cons_succ, List.getElem?_cons_zero]; rfl)
              case hy26 => ((refine .inl ⟨by rfl, ?_⟩); intro w hS; go_simp; (try with_reducible rfl))
              case hq26 => exact fun _ _ _ h => h
              (simp only [Act.put, List.setIfInBounds_toArray, List.set_cons_zero, List.set_cons_succ])
              refine wpAnyH_take (i := 10) (oi := ?o27) (v := ?v27) ?hi27 (by kernel_rfl) (by kernel_rfl) (by kernel_rfl) ?hq27 ?hy27 (by assumption) ?hr27
              case hi27 => (simp only [List.getElem?_toArray, List.getElem?_cons_succ, List.getElem?_cons_zero]; rfl)
              case hy27 => ((refine .inl ⟨by rfl, ?_⟩); intro w hS; go_simp; (try with_reducible rfl))
              case hq27 => exact fun _ _ _ h => h
              (simp only [Act.put, List.setIfInBounds_toArray, List.set_cons_zero, List.set_cons_succ])
              refine wpAnyH_take (i := 11) (oi := ?o28) (v := ?v28) ?hi28 (by kernel_rfl) (by kernel_rfl) (by kernel_rfl) ?hq28 ?hy28 (by assumption) ?hr28
              case hi28 => (simp only [List.getElem?_toArray, List.getElem?_cons_succ, List.getElem?_cons_zero]; rfl)
              case hy28 => ((refine .inl ⟨by rfl, ?_⟩); intro w hS; go_simp; (try with_reducible rfl))
              case hq28 => exact fun _ _ _ h => h
              (simp only [Act.put, List.setIfInBounds_toArray, List.set_cons_zero, List.set_cons_succ])
              refine wpAnyH_take (i := 12) (oi := ?o29) (v := ?v29) ?hi29 (by kernel_rfl) (by kernel_rfl) (by kernel_rfl) ?hq29 ?hy29 (by assumption) ?hr29
              case hi29 => (simp only [List.getElem?_toArray, List.getElem?_cons_succ, List.getElem?_cons_zero]; rfl)
              case hy29 => ((refine .inl ⟨by rfl, ?_⟩); intro w hS; go_simp; (try with_reducible rfl))
              case hq29 => exact fun _ _ _ h => h
              (simp only [Act.put, List.setIfInBounds_toArray, List.set_cons_zero, List.set_cons_succ])
              refine wpAnyH_take (i := 13) (oi := ?o30) (v := ?v30) ?hi30 (by kernel_rfl) (by kernel_rfl) (by kernel_rfl) ?hq30 ?hy30 (by assumption) ?hr30
              case hi30 => (simp only [List.getElem?_toArray, List.getElem?_cons_succ, List.getElem?_cons_zero]; rfl)
              case hy30 => ((refine .inl ⟨by rfl, ?_⟩); intro w hS; go_simp; (try with_reducible rfl))
              case hq30 => exact fun _ _ _ h => h
              (simp only [Act.put, List.setIfInBounds_toArray, List.set_cons_zero, List.set_cons_succ])
              refine wpAnyH_take (i := 14) (oi := ?o31) (v := ?v31) ?hi31 (by kernel_rfl) (by kernel_rfl) (by kernel_rfl) ?hq31 ?hy31 (by assumption) ?hr31
              case hi31 => (simp only [List.getElem?_toArray, List.getElem?_cons_succ, List.getElem?_cons_zero]; rfl)
              case hy31 => ((refine .inl ⟨by rfl, ?_⟩); intro w hS; go_simp; (try with_reducible rfl))
              case hq31 => exact fun _ _ _ h => h
              (simp only [Act.put, List.setIfInBounds_toArray, List.set_cons_zero, List.set_cons_succ])
              refine wpAnyH_ready (rs := [15]) (by kernel_rfl) (by simp) ?_
              refine AllReadyH.cons rfl (fun K hK => ?_) AllReadyH.nil
              go_simp
              refine hK.out _ _ (hHeld.other _) (fun hHeld1 => ?_)
              clear hK K
              (try simp only [Act.put, List.setIfInBounds_toArray, List.set_cons_zero, List.set_cons_succ])
              clear hHeld; have hHeld := hHeld1; clear hHeld1
              refine wpAnyH_ready (rs := [16]) (by kernel_rfl) (by simp) ?_
              refine AllReadyH.cons rfl (fun K hK => ?_) AllReadyH.nil
              refine step_appNA (w := wr.drew) HOW.out.drew (H := wr.heap.size) rfl info_wr Try.underlying24 rfl (by decide) (us := [.int .i64 (ba + (k : Int)), .slice (some ⟨gb, k, none⟩) 8 8, .bool false, .bool false]) rfl (by unfold maxLen; have := HK.out; omega) (by have := HK.out; omega) hszr (by intro u hu; simp only [List.mem_cons, List.not_mem_nil, or_false] at hu; rcases hu with rfl | rfl | rfl | rfl <;> rfl) rfl rfl (by rfl) (by rfl) rfl ?_; intro v5 w5 hown5 hg5 hbl5; have hst5 := HST.out.drew.grown_ty HOW.out.drew hg5 (Nat.le_refl _) (by intro r hr; obtain rfl := List.mem_singleton.1 hr; show 9 ≠ 49; decide); obtain ⟨A5, c5, hv5⟩ := own_slice hown5; subst hv5
              refine hK.out _ _ (hst5) (fun hHeld1 => ?_)
              clear hK K
              (try simp only [Act.put, List.setIfInBounds_toArray])
              clear hHeld; have hHeld := hHeld1; clear hHeld1
              refine wpAnyH_take (i := 17) (oi := ?o32) (v := ?v32) ?hi32 (by kernel_rfl) (by kernel_rfl) (by kernel_rfl) ?hq32 ?hy32 (by assumption) ?hr32
              case hi32 => (simp only [List.getElem?_toArray, List.getElem?_cons_succ, List.getElem?_cons_zero]; rfl)
              case hy32 => ((refine .inl ⟨by rfl, ?_⟩); intro w hS; go_simp; (try with_reducible rfl))
              case hq32 => exact fun _ _ _ h => h
              (simp only [Act.put])
              refine wpAnyH_done (by kernel_rfl) ?_ _
              rw [flWs_step gb ba R2 j k HK.out (by rw [HR2.out.2]; exact hk8)] at hown5
              go_wp2_with fail
              go_roundw
              case rel => exact ⟨j + 1, k + 8, A5, c5, Lib.hid (by have := HK.out; omega), hk8, by go_num, rfl, hown5, hst5⟩
              case measure => simp [intOf]; omega
            · have hkN : k = N := by omega
              have hge : ¬ (k : Int) < (N : Int) := by omega
              obtain ⟨j1, rfl⟩ : ∃ j1, j = j1 + 1 := ⟨j - 1, by have := HK.out; omega⟩
              obtain ⟨go, cap, hv, hgo, hgol, _⟩ := own_form hown (by omega)
              injection hv with hA _ hc
              subst hA hc
              have hj1b : (j1 : Int) ≤ 4096 := by have := HK.out; omega
              have h0j : (0 : Int) ≤ (j1 : Int) := by omega
              have hHK := HK.out
              have c2 := hown.cellAt (j1 * 4 + 2) (by omega)
              have f2 := hown.frozenAt (j1 * 4 + 2)
              have hlenX := hown.1
              obtain ⟨u2, hu2⟩ : ∃ u2, (flat encW (flWs gb ba R2 0 (j1 + 1)))[j1 * 4 + 2]? = some u2 := ⟨_, List.getElem?_eq_getElem (by omega)⟩
              rw [hu2] at c2
              have hown6 := (hown.stored (j1 * 4 + 2) (.bool true)).1
              have hst6 := hst.grown_ty hown (hown.stored (j1 * 4 + 2) (.bool true)).2 (Nat.le_refl _) (by intro r hr; obtain rfl := List.mem_singleton.1 hr; show 9 ≠ 49; decide)
              have hsync := flat_sync gb ba R2 j1
              rw [show 4 * j1 + 2 = j1 * 4 + 2 by omega] at hsync
              rw [hsync] at hown6
              clear hsync
              have HOW6 : Hid _ := Lib.hid hown6
              have HST6 := Lib.hid hst6
              have HKN := Lib.hid (show N = 8 * (j1 + 1) by omega)
              clear hu2 hown hst hown6 hst6 hlenX hHK hkN
              go_upto_region 24 with fail
              generalize wr.setCell ⟨go, j1 * 4 + 2, none⟩ (.bool true) = W6 at *
              have q6 := (HR.out.below HST6.out.bel hlt).cell
              have f6 := (HR.out.below HST6.out.bel hlt).frozen
              go_wp2_with fail
              go_ret2
              exact flush_res HE.out HNI.out HKN.out (Nat.succ_pos _) HR2.out.1 HR2.out.2 hlt HR.out HST6.out HOW6.out
    · have hn1 : ¬ n = 0 := by omega
      clear hn0
      go_wp2_with fail
      refine OP.out.mono ?_
      rintro e w1 ⟨hb1, A, c, rfl, hown⟩
      have q := (HR.out.below hb1 hlt).cell
      clear hown
      have hs1 : St w w1 [] := St.call hb1 (St.start w)
      clear q
      have q := ((HR.out.below hb1 hlt).cell)
      go_upto_region 10 with fail
      clear q
      refine wp_region_held_drew (S := (fun w' => St w w' [])) (by kernel_rfl) (hs1.drew) (fun hHeld => ?_)
      refine wpAnyH_take (i := 2) (oi := ?o63) (v := ?v63) ?hi63 (by kernel_rfl) (by kernel_rfl) (by kernel_rfl) ?hq63 ?hy63 (by assumption) ?hr63
      case hi63 => (simp only [List.getElem?_toArray, List.getElem?_cons_succ, List.getElem?_cons_zero]; rfl)
      case hy63 => ((refine .inl ⟨by rfl, ?_⟩); intro w hS; go_simp; (try with_reducible rfl))
      case hq63 => exact fun _ _ _ h => h
      (simp only [Act.put, List.setIfInBounds_toArray, List.set_cons_zero, List.set_cons_succ])
      refine wpAnyH_take (i := 3) (oi := ?o64) (v := ?v64) ?hi64 (by kernel_rfl) (by kernel_rfl) (by kernel_rfl) ?hq64 ?hy64 (by assumption) ?hr64
      case hi64 => (simp only [List.getElem?_toArray, List.getElem?_cons_succ, List.getElem?_cons_zero]; rfl)
      case hy64 => ((refine .inl ⟨by rfl, ?_⟩); intro w hS; go_simp; (try with_reducible rfl))
      case hq64 => exact fun _ _ _ h => h
      (simp only [Act.put, List.setIfInBounds_toArray, List.set_cons_zero, List.set_cons_succ])
      refine wpAnyH_take (i := 4) (oi := ?o65) (v := ?v65) ?hi65 (by kernel_rfl) (by kernel_rfl) (by kernel_rfl) ?hq65 ?hy65 (by assumption) ?hr65
      case hi65 => (simp only [List.getElem?_toArray, List.getElem?_cons_succ, List.getElem?_cons_zero]; rfl)
      case hy65 => ((refine .inl ⟨by rfl, ?_⟩); intro w hS; go_simp; (try with_reducible rfl))
      case hq65 => exact fun _ _ _ h => h
      (simp only [Act.put, List.setIfInBounds_toArray, List.set_cons_zero, List.set_cons_succ])
      refine wpAnyH_take (i := 5) (oi := ?o66) (v := ?v66) ?hi66 (by kernel_rfl) (by kernel_rfl) (by kernel_rfl) ?hq66 ?hy66 (by assumption) ?hr66
      case hi66 => (simp only [List.getElem?_toArray, List.getElem?_cons_succ, List.getElem?_cons_zero]; rfl)
      case hy66 => ((refine .inl ⟨by rfl, ?_⟩); intro w hS; go_simp; (try with_reducible rfl))
      case hq66 => exact fun _ _ _ h => h
      (simp only [Act.put, List.setIfInBounds_toArray, List.set_cons_zero, List.set_cons_succ])
      refine wpAnyH_take (i := 6) (oi := ?o67) (v := ?v67) ?hi67 (by kernel_rfl) (by kernel_rfl) (by kernel_rfl) ?hq67 ?hy67 (by assumption) ?hr67
      case hi67 => (simp only [List.getElem?_toArray, List.getElem?_cons_succ, List.getElem?_cons_zero]; rfl)
      case hy67 => ((refine .inl ⟨by rfl, ?_⟩); intro w hS; have q := (HR.out.below hS.bel hlt).cell; go_simp; (try with_reducible rfl))
      case hq67 => exact fun _ _ _ h => h
      (simp only [Act.put, List.setIfInBounds_toArray, List.set_cons_zero, List.set_cons_succ])
      refine wpAnyH_take (i := 7) (oi := ?o68) (v := ?v68) ?hi68 (by kernel_rfl) (by kernel_rfl) (by kernel_rfl) ?hq68 ?hy68 (by assumption) ?hr68
      case hi68 => (simp only [List.getElem?_toArray, List.getElem?_cons_succ, List.getElem?_cons_zero]; rfl)
      case hy68 => ((refine .inl ⟨by rfl, ?_⟩); intro w hS; go_simp; (try with_reducible rfl))
      case hq68 => exact fun _ _ _ h => h
      (simp only [Act.put, List.setIfInBounds_toArray, List.set_cons_zero, List.set_cons_succ])
      refine wpAnyH_ready (rs := [0]) (by kernel_rfl) (by simp) ?_
      refine AllReadyH.cons rfl (fun K hK => ?_) AllReadyH.nil
      go_simp
      go_wp2_with ((refine (HZ.out _).mono ?_; rintro e w2 ⟨rfl, hb2⟩))
      refine hK.out _ _ (St.call hb2 hHeld) (fun hHeld1 => ?_)
      clear hK K
      (try simp only [Act.put, List.setIfInBounds_toArray, List.set_cons_zero, List.set_cons_succ])
      clear hHeld; have hHeld := hHeld1; clear hHeld1
      refine wpAnyH_ready (rs := [1]) (by kernel_rfl) (by simp) ?_
      refine AllReadyH.cons rfl (fun K hK => ?_) AllReadyH.nil
      go_simp
      refine hK.out _ _ (St.other hHeld _) (fun hHeld1 => ?_)
      clear hK K
      (try simp only [Act.put, List.setIfInBounds_toArray, List.set_cons_zero, List.set_cons_succ])
      refine wpAnyH_row0 (hHeld.new (g := w2.heap.size) rfl #[.string ⟨(Lib.repeatL [0] 2048).toArray⟩] 9) (fun hHeld2 => ?_)
      clear hHeld hHeld1; have hHeld := hHeld2; clear hHeld2
      refine wpAnyH_ready (rs := [8]) (by kernel_rfl) (by simp) ?_
      refine AllReadyH.cons rfl (fun K hK => ?_) AllReadyH.nil
      go_simp
      go_wp2_with ((refine (repeat_any w2.heap.size 0 1 N _ _ ((hHeld.at (i := 0) rfl).cell 0) (hHeld.lt (i := 0) rfl) (by omega)).mono ?_; rintro e w4 ⟨rfl, hown4, hb4⟩))
      refine hK.out _ _ (St.call hb4 hHeld) (fun hHeld1 => ?_)
      clear hK K
      (try simp only [Act.put, List.setIfInBounds_toArray, List.set_cons_zero, List.set_cons_succ])
      clear hHeld; have hHeld := hHeld1; clear hHeld1
      refine wpAnyH_take (i := 9) (oi := ?o69) (v := ?v69) ?hi69 (by kernel_rfl) (by kernel_rfl) (by kernel_rfl) ?hq69 ?hy69 (by assumption) ?hr69
      case hi69 => (simp only [List.getElem?_toArray, List.getElem?_cons_succ, List.getElem?_cons_zero]; rfl)
      case hy69 => ((refine .inl ⟨by rfl, ?_⟩); intro w hS; go_simp; (try with_reducible rfl))
      case hq69 => exact fun _ _ _ h => h
      (simp only [Act.put, List.setIfInBounds_toArray, List.set_cons_zero, List.set_cons_succ])
      refine wpAnyH_done (by kernel_rfl) ?_ _
      have hrow := own_row_full hown4
      have hb4 := hHeld.bel
      have hgb0 : w.heap.size ≤ w2.heap.size + 1 := by have := hHeld.base (i := 0) rfl; omega
      obtain ⟨gb, hgb⟩ : ∃ gb, w2.heap.size + 1 = gb := ⟨_, rfl⟩
      simp only [World.size_alloc, hgb] at hrow hgb0 ⊢
      have HB4 := Lib.hid hb4
      have HROW := Lib.hid hrow
      have q4 := (HR.out.below hb4 hlt).cell
      clear hown4 hrow hb4 hb2 hs1 hHeld
      go_wp2_with fail
      clear q4
      go_loopw [9, 56] (fun v i wr => ∃ k : Nat, k ≤ n ∧ i = .int .i64 k ∧ Hid (wr.heap[gb]? = some (.cells (strV (flRow ba N (l.take k))).toArray 9 (0, 0))) ∧ Below w.heap.size w wr) (fun _ i _ => n - (intOf i).toNat)
      case atStart => exact ⟨0, Nat.zero_le _, rfl, Lib.hid (by rw [List.take_zero]; show _ = some (Obj.cells (strV (List.replicate N (fillS 0))).toArray _ _); rw [← fill_repeat 0]; exact HROW.out), HB4.out⟩
      case round =>
        obtain ⟨k, hk, rfl, HRK, hbk⟩ := hrel
        by_cases hltk : k < n
        · obtain ⟨x, hx⟩ : ∃ x, l[k]? = some x := ⟨l[k]'(by rw [HN.out]; exact hltk), List.getElem?_eq_getElem _⟩
          obtain ⟨gl, cap, hv, _, hgl, _⟩ := own_form HO.out (by omega)
          injection hv with hA _ hc
          subst hA hc
          have hoL : w.ownsRow base0 114 2 (.slice (some ⟨gl, 0, none⟩) l.length cl) l.length (flat encP l) := by rw [HN.out]; exact HO.out
          obtain ⟨p0, p1⟩ := lastL_cells (own_all hoL hbk) hx
          have hltI : (k : Int) < (n : Int) := by omega
          have h0k : (0 : Int) ≤ (k : Int) := by omega
          have HX := Lib.hid hx
          obtain ⟨lx, bx⟩ := x
          have hj2 := HLB.out _ (List.mem_of_getElem? hx)
          dsimp only at p0 p1 hj2
          obtain ⟨j, hj⟩ : ∃ j : Nat, (j : Int) = lx - ba := ⟨(lx - ba).toNat, by have := HBA.out; omega⟩
          have hjw : IntKind.i64.wrap (lx - ba) = (j : Int) := by rw [IntWalk.i64_in _ (by have := HBA.out; omega)]; exact hj.symm
          have hjN : (j : Int) < (N : Int) := by have := HNI.out; omega
          have h0j : (0 : Int) ≤ (j : Int) := by omega
          have HJ := Lib.hid hj
          clear hx hj hj2
          have hbA := hbk.alloc hbk.size (.cells #[.int .i64 lx, .string bx] 114)
          have q5 := (HR.out.below hbA hlt).cell
          have hn9 := RowAt.new wr 114 #[.int .i64 lx, .string bx]
          have HR9 : Hid ((wr.alloc (.cells #[.int .i64 lx, .string bx] 114)).heap[gb]? = some (.cells (strV (flRow ba N (l.take k))).toArray 9 (0, 0))) := Lib.hid (by
            have hgl : gb < wr.heap.size := RowAt.lt (t := 9) (show RowAt wr gb _ _ from HRK.out)
            exact (Below.heap_alloc wr _ gb hgl).trans HRK.out)
          go_wp2_with fail
          generalize hW : wr.alloc (.cells #[.int .i64 lx, .string bx] 114) = W at *
          have c9 := hn9.cell
          have q6 : ∀ i, W.drew.cell? ⟨g, i, none⟩ = _ := q5
          generalize wr.heap.size = g9 at *
          go_still_tail 11, (by kernel_rfl)
          change wpList _ _ _ _ _ W.drew
          have c10 := cell_of_row W.drew gb j _ _ _ HR9.out
          have f10 := frozen_of_row W.drew gb j _ _ HR9.out
          rw [List.getElem?_toArray, show (strV (flRow ba N (l.take k)))[j]? = some (.string ((flRow ba N (l.take k))[j]?.getD blankS)) from by
            have hj := HJ.out
            unfold strV
            rw [List.getElem?_map]
            have hlen : j < (flRow ba N (l.take k)).length := by rw [flRow_length]; omega
            rw [List.getElem?_eq_getElem hlen]
            rfl] at c10
          have HBV := Lib.hid hbA.drew
          have HRV : Hid (RowAt W.drew gb 9 (strV (flRow ba N (l.take k))).toArray) := Lib.hid HR9.out
          generalize hV : W.drew = V at *
          go_wp2_with fail
          refine ⟨⟨k + 1, hltk, by go_num, Lib.hid ?_, HBV.out.setCell (p := ⟨gb, j, none⟩) hgb0 _⟩, by simp [intOf]; omega⟩
          have hset := HRV.out.set_ j (.string bx)
          have htk : l.take (k + 1) = l.take k ++ [⟨lx, bx⟩] := by rw [List.take_add_one, HX.out]; rfl
          rw [htk, flRow_snoc, show (lx - ba).toNat = j by have := HJ.out; omega]
          unfold strV at hset ⊢
          rw [List.map_set]
          rw [List.setIfInBounds_toArray] at hset
          exact hset
        · have hkn : k = n := by omega
          subst hkn
          have hge : ¬ (k : Int) < (k : Int) := by omega
          have HR4 : Hid (wr.heap[gb]? = some (.cells (strV (flRow ba N l)).toArray 9 (0, 0))) := Lib.hid (by have := HRK.out; rw [List.take_of_length_le (by rw [HN.out]; exact Nat.le_refl _)] at this; exact this)
          obtain ⟨R, hR⟩ : ∃ R, flRow ba N l = R := ⟨_, rfl⟩
          have hRl : R.length = N := by rw [← hR]; exact flRow_length _ _ _
          have HRE := Lib.hid hR
          have HRL := Lib.hid hRl
          rw [hR] at HR4
          clear hR hRl
          have eN : ((N : Int) - 1).toNat = N - 1 := by omega
          have h0N : (0 : Int) ≤ (N : Int) - 1 := by omega
          have c17 := cell_of_row wr gb (N - 1) _ _ _ HR4.out
          have f17 := frozen_of_row wr gb (N - 1) _ _ HR4.out
          rw [List.getElem?_toArray, show (strV R)[N - 1]? = some (.string (R[N - 1]?.getD blankS)) from by
            unfold strV
            rw [List.getElem?_map, List.getElem?_eq_getElem (by have := HRL.out; omega)]
            rfl] at c17
          have hr3 : RowAt wr gb 9 (strV R).toArray := HR4.out
          have hr4 := hr3.set_ (N - 1) (.string ctl)
          have hbk2 := hbk.setCell (p := ⟨gb, N - 1, none⟩) hgb0 (.string ctl)
          rw [List.setIfInBounds_toArray, show (strV R).set (N - 1) (.string ctl) = strV (R.set (N - 1) ctl) by unfold strV; rw [List.map_set]] at hr4
          have hR2 : flAll st ba l ctl = R.set (N - 1) ctl ∧ (R.set (N - 1) ctl).length = N := ⟨by unfold flAll flCtl; rw [if_neg (fun e => by rw [e] at hcB; cases hcB), HE.out, show (E + 1 - ba).toNat = N by have := HNI.out; omega, HRE.out, HRL.out], by rw [List.length_set]; exact HRL.out⟩
          have HR17 := Lib.hid (And.intro hr4 (And.intro hbk2 hR2))
          clear HR4 HRK HRE hbk hr3 hr4 hbk2 hR2
          obtain ⟨R2, hRR⟩ : ∃ R2, R2 = R.set (N - 1) ctl := ⟨_, rfl⟩
          rw [← hRR] at HR17
          clear hRR
          go_wp2_with fail
          obtain ⟨hr4, hbk2, hR2⟩ := HR17.out
          clear HR17 c17 f17
          generalize wr.setCell ⟨gb, N - 1, none⟩ (.string ctl) = W2 at *
          have HR2 := Lib.hid hR2
          have HR4 := Lib.hid hr4
          have hsW : St w W2 [(gb, 9, (strV R2).toArray)] := ⟨hbk2, by intro r hr; obtain rfl := List.mem_singleton.1 hr; exact ⟨hgb0, hr4⟩, List.pairwise_singleton _ _⟩
          clear hR2 hr4 hbk2
          go_loopw [10, 11] (fun v i wr => ∃ (j k : Nat) (A1 : Option Addr) (c1 : Nat), Hid (k = 8 * j) ∧ k ≤ N ∧ i = .int .i64 k ∧ v = .slice A1 j c1 ∧ wr.ownsRow w.heap.size 49 4 (.slice A1 j c1) j (flat encW (flWs gb ba R2 0 j)) ∧ St w wr [(gb, 9, (strV R2).toArray)]) (fun _ i _ => N - (intOf i).toNat)
          case atStart => exact ⟨0, 0, none, 0, Lib.hid rfl, Nat.zero_le _, rfl, rfl, World.ownsRow_nil _ _ _ _, hsW⟩
          case round =>
            clear hsW
            obtain ⟨j, k, A1, c1, HK, hk, rfl, rfl, hown, hst⟩ := hrel
            by_cases hltk : k < N
            · have hltI : (k : Int) < (N : Int) := by omega
              have h0k : (0 : Int) ≤ (k : Int) := by omega
              have hk8 : k + 8 ≤ N := by have := HK.out; have := HNI.out; omega
              have hk8I : (k : Int) + 8 ≤ (N : Int) := by omega
              have hw8 : IntKind.i64.wrap ((k : Int) + 8) = (k : Int) + 8 := IntWalk.i64_in _ (by omega)
              have hbaw : IntKind.i64.wrap (ba + (k : Int)) = ba + (k : Int) := IntWalk.i64_in _ (by have := HBA.out; have := HNI.out; omega)
              have h0k8 : (0 : Int) ≤ (k : Int) + 8 := by omega
              have hkk8 : (k : Int) ≤ (k : Int) + 8 := by omega
              have e8 : ((k : Int) + 8).toNat = k + 8 := by omega
              have HST := Lib.hid hst
              have HOW := Lib.hid hown
              have hszr := hst.bel.size
              clear hst hown
              go_upto_region 22 with fail
              refine wp_region_held_drew (S := (fun w' => St w w' [(gb, 9, (strV R2).toArray)])) (by kernel_rfl) (HST.out.drew) (fun hHeld => ?_)
              refine wpAnyH_take (i := 0) (oi := ?o33) (v := ?v33) ?hi33 (by kernel_rfl) (by kernel_rfl) (by kernel_rfl) ?hq33 ?hy33 (by assumption) ?hr33
              case hi33 => (simp only [List.getElem?_toArray, List.getElem?_cons_zero]; rfl)
              case hy33 => ((refine .inl ⟨by rfl, ?_⟩); intro w hS; go_simp; (try with_reducible rfl))
              case hq33 => exact fun _ _ _ h => h
              (simp only [Act.put, List.setIfInBounds_toArray, List.set_cons_zero, List.set_cons_succ])
              refine wpAnyH_take (i := 1) (oi := ?o34) (v := ?v34) ?hi34 (by kernel_rfl) (by kernel_rfl) (by kernel_rfl) ?hq34 ?hy34 (by assumption) ?hr34
              case hi34 => (simp only [List.getElem?_toArray, List.getElem?_cons_succ, List.getElem?_cons_zero]; rfl)
              case hy34 => ((refine .inl ⟨by rfl, ?_⟩); intro w hS; go_simp; (try with_reducible rfl))
              case hq34 => exact fun _ _ _ h => h
              (simp only [Act.put, List.setIfInBounds_toArray, List.set_cons_zero, List.set_cons_succ])
              refine wpAnyH_take (i := 2) (oi := ?o35) (v := ?v35) ?hi35 (by kernel_rfl) (by kernel_rfl) (by kernel_rfl) ?hq35 ?hy35 (by assumption) ?hr35
              case hi35 => (simp only [List.getElem?_toArray, List.getElem?_cons_succ, List.getElem?_cons_zero]; rfl)
              case hy35 => ((refine .inl ⟨by rfl, ?_⟩); intro w hS; go_simp; (try with_reducible rfl))
              case hq35 => exact fun _ _ _ h => h
              (simp only [Act.put, List.setIfInBounds_toArray, List.set_cons_zero, List.set_cons_succ])
              refine wpAnyH_take (i := 3) (oi := ?o36) (v := ?v36) ?hi36 (by kernel_rfl) (by kernel_rfl) (by kernel_rfl) ?hq36 ?hy36 (by assumption) ?hr36
              case hi36 => (simp only [List.getElem?_toArray, List.getElem?_cons_succ, List.getElem?_cons_zero]; rfl)
              case hy36 => ((refine .inl ⟨by rfl, ?_⟩); intro w hS; go_simp; (try with_reducible rfl))
              case hq36 => exact fun _ _ _ h => h
              (simp only [Act.put, List.setIfInBounds_toArray, List.set_cons_zero, List.set_cons_succ])
              refine wpAnyH_take (i := 4) (oi := ?o37) (v := ?v37) ?hi37 (by kernel_rfl) (by kernel_rfl) (by kernel_rfl) ?hq37 ?hy37 (by assumption) ?hr37
              case hi37 => (simp only [List.getElem?_toArray, List.getElem?_cons_succ, List.getElem?_cons_zero]; rfl)
              case hy37 => ((refine .inl ⟨by rfl, ?_⟩); intro w hS; have q := (HR.out.below hS.bel hlt).cell; go_simp; (try with_reducible rfl))
              case hq37 => exact fun _ _ _ h => h
              (simp only [Act.put, List.setIfInBounds_toArray, List.set_cons_zero, List.set_cons_succ])
              refine wpAnyH_take (i := 5) (oi := ?o38) (v := ?v38) ?hi38 (by kernel_rfl) (by kernel_rfl) (by kernel_rfl) ?hq38 ?hy38 (by assumption) ?hr38
              case hi38 => (simp only [List.getElem?_toArray, List.getElem?_cons_succ, List.getElem?_cons_zero]; rfl)
              case hy38 => ((refine .inl ⟨by rfl, ?_⟩); intro w hS; go_simp; (try with_reducible rfl))
              case hq38 => exact fun _ _ _ h => h
              (simp only [Act.put, List.setIfInBounds_toArray, List.set_cons_zero, List.set_cons_succ])
              refine wpAnyH_take (i := 6) (oi := ?o39) (v := ?v39) ?hi39 (by kernel_rfl) (by kernel_rfl) (by kernel_rfl) ?hq39 ?hy39 (by assumption) ?hr39
              case hi39 => (simp only [List.getElem?_toArray, List.getElem?_cons_succ, List.getElem?_cons_zero]; rfl)
              case hy39 => ((refine .inl ⟨by rfl, ?_⟩); intro w hS; go_simp; (try with_reducible rfl))
              case hq39 => exact fun _ _ _ h => h
              (simp only [Act.put, List.setIfInBounds_toArray, List.set_cons_zero, List.set_cons_succ])
              refine wpAnyH_take (i := 7) (oi := ?o40) (v := ?v40) ?hi40 (by kernel_rfl) (by kernel_rfl) (by kernel_rfl) ?hq40 ?hy40 (by assumption) ?hr40
              case hi40 => (simp only [List.getElem?_toArray, List.getElem?_cons_succ, List.getElem?_cons_zero]; rfl)
              case hy40 => ((refine .inl ⟨by rfl, ?_⟩); intro w hS; go_simp; (try with_reducible rfl))
              case hq40 => exact fun _ _ _ h => h
              (simp only [Act.put, List.setIfInBounds_toArray, List.set_cons_zero, List.set_cons_succ])
              refine wpAnyH_take (i := 8) (oi := ?o41) (v := ?v41) ?hi41 (by kernel_rfl) (by kernel_rfl) (by kernel_rfl) ?hq41 ?hy41 (by assumption) ?hr41
              case hi41 => (simp only [List.getElem?_toArray, List.getElem?_cons_succ, List.getElem?_cons_zero]; rfl)
              case hy41 => ((refine .inl ⟨by rfl, ?_⟩); intro w hS; go_simp; (try with_reducible rfl))
              case hq41 => exact fun _ _ _ h => h
              (simp only [Act.put, List.setIfInBounds_toArray, List.set_cons_zero, List.set_cons_succ])
              refine wpAnyH_take (i := 9) (oi := ?o42) (v := ?v42) ?hi42 (by kernel_rfl) (by kernel_rfl) (by kernel_rfl) ?hq42 ?hy42 (by assumption) ?hr42
              case hi42 => (simp only [List.getElem?_toArray, List.getElem?_cons_succ, List.getElem?_cons_zero]; rfl)
              case hy42 => ((refine .inl ⟨by rfl, ?_⟩); intro w hS; go_simp; (try with_reducible rfl))
              case hq42 => exact fun _ _ _ h => h
              (simp only [Act.put, List.setIfInBounds_toArray, List.set_cons_zero, List.set_cons_succ])
              refine wpAnyH_take (i := 10) (oi := ?o43) (v := ?v43) ?hi43 (by kernel_rfl) (by kernel_rfl) (by kernel_rfl) ?hq43 ?hy43 (by assumption) ?hr43
              case hi43 => (simp only [List.getElem?_toArray, List.getElem?_cons_succ, List.getElem?_cons_zero]; rfl)
              case hy43 => ((refine .inl ⟨by rfl, ?_⟩); intro w hS; go_simp; (try with_reducible rfl))
              case hq43 => exact fun _ _ _ h => h
              (simp only [Act.put, List.setIfInBounds_toArray, List.set_cons_zero, List.set_cons_succ])
              refine wpAnyH_take (i := 11) (oi := ?o44) (v := ?v44) ?hi44 (by kernel_rfl) (by kernel_rfl) (by kernel_rfl) ?hq44 ?hy44 (by assumption) ?hr44
              case hi44 => (simp only [List.getElem?_toArray, List.getElem?_cons_succ, List.getElem?_cons_zero]; rfl)
              case hy44 => ((refine .inl ⟨by rfl, ?_⟩); intro w hS; go_simp; (try with_reducible rfl))
              case hq44 => exact fun _ _ _ h => h
              (simp only [Act.put, List.setIfInBounds_toArray, List.set_cons_zero, List.set_cons_succ])
              refine wpAnyH_take (i := 12) (oi := ?o45) (v := ?v45) ?hi45 (by kernel_rfl) (by kernel_rfl) (by kernel_rfl) ?hq45 ?hy45 (by assumption) ?hr45
              case hi45 => (simp only [List.getElem?_toArray, List.getElem?_cons_succ, List.getElem?_cons_zero]; rfl)
              case hy45 => ((refine .inl ⟨by rfl, ?_⟩); intro w hS; go_simp; (try with_reducible rfl))
              case hq45 => exact fun _ _ _ h => h
              (simp only [Act.put, List.setIfInBounds_toArray, List.set_cons_zero, List.set_cons_succ])
              refine wpAnyH_take (i := 13) (oi := ?o46) (v := ?v46) ?hi46 (by kernel_rfl) (by kernel_rfl) (by kernel_rfl) ?hq46 ?hy46 (by assumption) ?hr46
              case hi46 => (simp only [List.getElem?_toArray, List.getElem?_cons_succ, List.getElem?_cons_zero]; rfl)
              case hy46 => ((refine .inl ⟨by rfl, ?_⟩); intro w hS; go_simp; (try with_reducible rfl))
              case hq46 => exact fun _ _ _ h => h
              (simp only [Act.put, List.setIfInBounds_toArray, List.set_cons_zero, List.set_cons_succ])
              refine wpAnyH_take (i := 14) (oi := ?o47) (v := ?v47) ?hi47 (by kernel_rfl) (by kernel_rfl) (by kernel_rfl) ?hq47 ?hy47 (by assumption) ?hr47
              case hi47 => (simp only [List.getElem?_toArray, List.getElem?_cons_succ, List.getElem?_cons_zero]; rfl)
              case hy47 => ((refine .inl ⟨by rfl, ?_⟩); intro w hS; go_simp; (try with_reducible rfl))
              case hq47 => exact fun _ _ _ h => h
              (simp only [Act.put, List.setIfInBounds_toArray, List.set_cons_zero, List.set_cons_succ])
              refine wpAnyH_ready (rs := [15]) (by kernel_rfl) (by simp) ?_
              refine AllReadyH.cons rfl (fun K hK => ?_) AllReadyH.nil
              go_simp
              refine hK.out _ _ (hHeld.other _) (fun hHeld1 => ?_)
              clear hK K
              (try simp only [Act.put, List.setIfInBounds_toArray, List.set_cons_zero, List.set_cons_succ])
              clear hHeld; have hHeld := hHeld1; clear hHeld1
              refine wpAnyH_ready (rs := [16]) (by kernel_rfl) (by simp) ?_
              refine AllReadyH.cons rfl (fun K hK => ?_) AllReadyH.nil
              refine step_appNA (w := wr.drew) HOW.out.drew (H := wr.heap.size) rfl info_wr Try.underlying24 rfl (by decide) (us := [.int .i64 (ba + (k : Int)), .slice (some ⟨gb, k, none⟩) 8 8, .bool false, .bool false]) rfl (by unfold maxLen; have := HK.out; omega) (by have := HK.out; omega) hszr (by intro u hu; simp only [List.mem_cons, List.not_mem_nil, or_false] at hu; rcases hu with rfl | rfl | rfl | rfl <;> rfl) rfl rfl (by rfl) (by rfl) rfl ?_; intro v5 w5 hown5 hg5 hbl5; have hst5 := HST.out.drew.grown_ty HOW.out.drew hg5 (Nat.le_refl _) (by intro r hr; obtain rfl := List.mem_singleton.1 hr; show 9 ≠ 49; decide); obtain ⟨A5, c5, hv5⟩ := own_slice hown5; subst hv5
              refine hK.out _ _ (hst5) (fun hHeld1 => ?_)
              clear hK K
              (try simp only [Act.put, List.setIfInBounds_toArray])
              clear hHeld; have hHeld := hHeld1; clear hHeld1
              refine wpAnyH_take (i := 17) (oi := ?o48) (v := ?v48) ?hi48 (by kernel_rfl) (by kernel_rfl) (by kernel_rfl) ?hq48 ?hy48 (by assumption) ?hr48
              case hi48 => (simp only [List.getElem?_toArray, List.getElem?_cons_succ, List.getElem?_cons_zero]; rfl)
              case hy48 => ((refine .inl ⟨by rfl, ?_⟩); intro w hS; go_simp; (try with_reducible rfl))
              case hq48 => exact fun _ _ _ h => h
              (simp only [Act.put])
              refine wpAnyH_done (by kernel_rfl) ?_ _
              rw [flWs_step gb ba R2 j k HK.out (by rw [HR2.out.2]; exact hk8)] at hown5
              go_wp2_with fail
              go_roundw
              case rel => exact ⟨j + 1, k + 8, A5, c5, Lib.hid (by have := HK.out; omega), hk8, by go_num, rfl, hown5, hst5⟩
              case measure => simp [intOf]; omega
            · have hkN : k = N := by omega
              have hge : ¬ (k : Int) < (N : Int) := by omega
              obtain ⟨j1, rfl⟩ : ∃ j1, j = j1 + 1 := ⟨j - 1, by have := HK.out; omega⟩
              obtain ⟨go, cap, hv, hgo, hgol, _⟩ := own_form hown (by omega)
              injection hv with hA _ hc
              subst hA hc
              have hj1b : (j1 : Int) ≤ 4096 := by have := HK.out; omega
              have h0j : (0 : Int) ≤ (j1 : Int) := by omega
              have hHK := HK.out
              have c2 := hown.cellAt (j1 * 4 + 2) (by omega)
              have f2 := hown.frozenAt (j1 * 4 + 2)
              have hlenX := hown.1
              obtain ⟨u2, hu2⟩ : ∃ u2, (flat encW (flWs gb ba R2 0 (j1 + 1)))[j1 * 4 + 2]? = some u2 := ⟨_, List.getElem?_eq_getElem (by omega)⟩
              rw [hu2] at c2
              have hown6 := (hown.stored (j1 * 4 + 2) (.bool true)).1
              have hst6 := hst.grown_ty hown (hown.stored (j1 * 4 + 2) (.bool true)).2 (Nat.le_refl _) (by intro r hr; obtain rfl := List.mem_singleton.1 hr; show 9 ≠ 49; decide)
              have hsync := flat_sync gb ba R2 j1
              rw [show 4 * j1 + 2 = j1 * 4 + 2 by omega] at hsync
              rw [hsync] at hown6
              clear hsync
              have HOW6 : Hid _ := Lib.hid hown6
              have HST6 := Lib.hid hst6
              have HKN := Lib.hid (show N = 8 * (j1 + 1) by omega)
              clear hu2 hown hst hown6 hst6 hlenX hHK hkN
              go_upto_region 24 with fail
              generalize wr.setCell ⟨go, j1 * 4 + 2, none⟩ (.bool true) = W6 at *
              have q6 := (HR.out.below HST6.out.bel hlt).cell
              have f6 := (HR.out.below HST6.out.bel hlt).frozen
              go_wp2_with fail
              go_ret2
              exact flush_res HE.out HNI.out HKN.out (Nat.succ_pos _) HR2.out.1 HR2.out.2 hlt HR.out HST6.out HOW6.out
end Go.Proofs.Ytdmdfpdigoijoaa
