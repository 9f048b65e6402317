import Derived.Test.YtdmdfpdigoijoaaQg
import Derived.Test.YtdmdfpdigoijoaaQc
import Derived.Test.YtdmdfpdigoijoaaShelf
import Derived.Test.YtdmdfpdigoijoaaPwU
import Derived.Test.YtdmdfpdigoijoaaPwRs
import Derived.Test.YtdmdfpdigoijoaaPwFm
import Derived.Test.YtdmdfpdigoijoaaPwL7
import Derived.Test.YtdmdfpdigoijoaaPwFi2
/-
  Chapter 52: what the law of the calls compares and asks: SameWrites, FewActs, Join; acts in memory.
-/
namespace Go.Proofs.Ytdmdfpdigoijoaa
open Go.RowKit
set_option linter.unusedVariables false

theorem WsAt.one {w : World} {B : Nat} {A : Option Addr} {ws : List Wr} (h : WsAt w B A ws) (hp : 0 < ws.length) : ∃ b off, A = some ⟨b, off, none⟩ ∧ b < B := by
  obtain ⟨b, off, hA, hb, _⟩ := h.1.one (by rw [flat_length encW_length]; omega)
  exact ⟨b, off, hA, hb⟩
theorem WsAt.cells {w : World} {B : Nat} {A : Option Addr} {ws : List Wr} (h : WsAt w B A ws) {b off : Nat} (hA : A = some ⟨b, off, none⟩) {k : Nat} {x : Wr} (hk : ws[k]? = some x) :
    w.cell? ⟨b, off + k * 4, none⟩ = some (.int .i64 x.pos) ∧ w.cell? ⟨b, off + k * 4 + 1, none⟩ = some (.slice x.A x.bl.length x.cap) ∧ w.cell? ⟨b, off + k * 4 + 2, none⟩ = some (.bool x.sync) ∧ w.cell? ⟨b, off + k * 4 + 3, none⟩ = some (.bool x.close) := by
  have c : ∀ j, j < 4 → ∀ u, (encW x)[j]? = some u → w.cell? ⟨b, off + (k * 4 + j), none⟩ = some u := fun j hj u hu => by
    obtain ⟨b', off', e, _, hc⟩ := h.1 (k * 4 + j) u ((flat_get encW_length ws k j x hk hj).trans hu)
    rw [hA] at e
    injection e with e
    injection e with e1 e2 _
    subst e1 e2
    exact hc
  refine ⟨c 0 (by omega) _ rfl, ?_, ?_, ?_⟩
  · rw [Nat.add_assoc]; exact c 1 (by omega) _ rfl
  · rw [Nat.add_assoc]; exact c 2 (by omega) _ rfl
  · rw [Nat.add_assoc]; exact c 3 (by omega) _ rfl
set_option maxRecDepth 100000 in
set_option maxHeartbeats 2000000 in
theorem samewrites_same (A A' : Option Addr) (c c' : Nat) (ws ws' : List Wr) (w : World) (h : WsAt w w.heap.size A ws) (h' : WsAt w w.heap.size A' ws') (hc : ws.map wcore = ws'.map wcore) (hl : ws.length ≤ 1000000) (hb : ∀ x ∈ ws, x.bl.length ≤ 1000000) :
    Calls Try.prog 53 #[.slice A ws.length c, .slice A' ws'.length c'] w fun e w' => e = .returned (.bool true) ∧ Below w.heap.size w w' := by
  have HS := Lib.hid h
  have HS' := Lib.hid h'
  have HB := Lib.hid hb
  have hlen : ws'.length = ws.length := by have := congrArg List.length hc; simpa using this.symm
  have HLN := Lib.hid hlen
  have HC := Lib.hid hc
  rw [hlen]
  obtain ⟨n, hn⟩ : ∃ n, ws.length = n := ⟨_, rfl⟩
  have HN := Lib.hid hn
  rw [hn] at hl HLN ⊢
  clear h h' hn hb hlen hc
  go_enter Try.func53, Try.ntmps53
  go_wp2_with fail
  go_loopw [5] (fun i wr => ∃ k : Nat, k ≤ n ∧ i = .int .i64 k ∧ Below w.heap.size w wr) (fun i _ => n - (intOf i).toNat)
  case atStart => exact ⟨0, by omega, rfl, Below.refl _ _⟩
  case round =>
    obtain ⟨k, hk, rfl, hbel⟩ := hrel
    by_cases hlt : k < n
    · obtain ⟨x, hx⟩ : ∃ s, ws[k]? = some s := ⟨ws[k]'(by rw [HN.out]; exact hlt), List.getElem?_eq_getElem _⟩
      obtain ⟨y, hy⟩ : ∃ s, ws'[k]? = some s := ⟨ws'[k]'(by rw [HLN.out]; exact hlt), List.getElem?_eq_getElem _⟩
      have hxy : wcore x = wcore y := by
        have e := congrArg (fun l => l[k]?) HC.out
        simp only [List.getElem?_map, hx, hy, Option.map_some] at e
        injection e
      obtain ⟨b, off, hA, hbk⟩ := HS.out.one (by rw [HN.out]; omega)
      obtain ⟨b', off', hA', hbk'⟩ := HS'.out.one (by rw [HLN.out]; omega)
      subst hA hA'
      have HX := ((HS.out.below hbel).2 x (List.mem_of_getElem? hx))
      have HY := ((HS'.out.below hbel).2 y (List.mem_of_getElem? hy))
      have hxl := HB.out x (List.mem_of_getElem? hx)
      obtain ⟨xp, xA, xc, xb, xs, xcl⟩ := x
      obtain ⟨yp, yA, yc, yb, ys, ycl⟩ := y
      simp only [wcore, Prod.mk.injEq] at hxy
      obtain ⟨rfl, rfl, rfl, rfl⟩ := hxy
      dsimp only at HX HY hxl
      have C := Lib.hid (fun w' (hb : Below wr.heap.size wr w') => sameimg_same xA yA xc yc xb w' (((HX.mono hbel.size).below hb).mono hb.size) (((HY.mono hbel.size).below hb).mono hb.size) hxl)
      have hbl1 : b < wr.heap.size := Nat.lt_of_lt_of_le hbk hbel.size
      have hbl2 : b' < wr.heap.size := Nat.lt_of_lt_of_le hbk' hbel.size
      have HP := Lib.hid (fun w' (hb : Below wr.heap.size wr w') => ((((HS.out.below hbel).mono hbel.size).below hb).cells rfl hx))
      have HQ := Lib.hid (fun w' (hb : Below wr.heap.size wr w') => ((((HS'.out.below hbel).mono hbel.size).below hb).cells rfl hy))
      have hltI : (k : Int) < (n : Int) := by omega
      have h0k : (0 : Int) ≤ (k : Int) := by omega
      have HBE := Lib.hid hbel
      clear hx hy HX HY hbel
      go_wp2_with fail
      refine wp_region_held_drew (S := (fun w' => Below wr.heap.size wr w')) (by kernel_rfl) ((Below.refl _ _).drew) (fun hHeld => ?_)
      refine wpAnyH_take (i := 0) (oi := ?o701) (v := ?v701) ?hi701 (by kernel_rfl) (by kernel_rfl) (by kernel_rfl) ?hq701 ?hy701 (by assumption) ?hr701
      case hi701 => (simp only [List.getElem?_toArray, List.getElem?_cons_zero]; rfl)
      case hy701 => ((refine .inl ⟨by rfl, ?_⟩); intro w hS; go_simp; (try with_reducible rfl))
      case hq701 => exact fun _ _ _ h => h
      (simp only [Act.put, List.setIfInBounds_toArray, List.set_cons_zero, List.set_cons_succ])
      refine wpAnyH_take (i := 1) (oi := ?o702) (v := ?v702) ?hi702 (by kernel_rfl) (by kernel_rfl) (by kernel_rfl) ?hq702 ?hy702 (by assumption) ?hr702
      case hi702 => (simp only [List.getElem?_toArray, List.getElem?_cons_succ, List.getElem?_cons_zero]; rfl)
      case hy702 => ((refine .inl ⟨by rfl, ?_⟩); intro w hS; go_simp; (try with_reducible rfl))
      case hq702 => exact fun _ _ _ h => h
      (simp only [Act.put, List.setIfInBounds_toArray, List.set_cons_zero, List.set_cons_succ])
      refine wpAnyH_take (i := 2) (oi := ?o703) (v := ?v703) ?hi703 (by kernel_rfl) (by kernel_rfl) (by kernel_rfl) ?hq703 ?hy703 (by assumption) ?hr703
      case hi703 => (simp only [List.getElem?_toArray, List.getElem?_cons_succ, List.getElem?_cons_zero]; rfl)
      case hy703 => ((refine .inl ⟨by rfl, ?_⟩); intro w hS; go_simp; (try with_reducible rfl))
      case hq703 => exact fun _ _ _ h => h
      (simp only [Act.put, List.setIfInBounds_toArray, List.set_cons_zero, List.set_cons_succ])
      refine wpAnyH_take (i := 3) (oi := ?o704) (v := ?v704) ?hi704 (by kernel_rfl) (by kernel_rfl) (by kernel_rfl) ?hq704 ?hy704 (by assumption) ?hr704
      case hi704 => (simp only [List.getElem?_toArray, List.getElem?_cons_succ, List.getElem?_cons_zero]; rfl)
      case hy704 => ((refine .inl ⟨by rfl, ?_⟩); intro w hS; go_simp; (try with_reducible rfl))
      case hq704 => exact fun _ _ _ h => h
      (simp only [Act.put, List.setIfInBounds_toArray, List.set_cons_zero, List.set_cons_succ])
      refine wpAnyH_take (i := 4) (oi := ?o705) (v := ?v705) ?hi705 (by kernel_rfl) (by kernel_rfl) (by kernel_rfl) ?hq705 ?hy705 (by assumption) ?hr705
      case hi705 => (simp only [List.getElem?_toArray, List.getElem?_cons_succ, List.getElem?_cons_zero]; rfl)
      case hy705 => ((refine .inl ⟨by rfl, ?_⟩); intro w hS; obtain ⟨p0, p1, p2, p3⟩ := HP.out _ hS; obtain ⟨q0, q1, q2, q3⟩ := HQ.out _ hS; go_simp; (try with_reducible rfl))
      case hq705 => exact fun _ _ _ h => h
      (simp only [Act.put, List.setIfInBounds_toArray, List.set_cons_zero, List.set_cons_succ])
      refine wpAnyH_take (i := 5) (oi := ?o706) (v := ?v706) ?hi706 (by kernel_rfl) (by kernel_rfl) (by kernel_rfl) ?hq706 ?hy706 (by assumption) ?hr706
      case hi706 => (simp only [List.getElem?_toArray, List.getElem?_cons_succ, List.getElem?_cons_zero]; rfl)
      case hy706 => ((refine .inl ⟨by rfl, ?_⟩); intro w hS; go_simp; (try with_reducible rfl))
      case hq706 => exact fun _ _ _ h => h
      (simp only [Act.put, List.setIfInBounds_toArray, List.set_cons_zero, List.set_cons_succ])
      refine wpAnyH_take (i := 6) (oi := ?o707) (v := ?v707) ?hi707 (by kernel_rfl) (by kernel_rfl) (by kernel_rfl) ?hq707 ?hy707 (by assumption) ?hr707
      case hi707 => (simp only [List.getElem?_toArray, List.getElem?_cons_succ, List.getElem?_cons_zero]; rfl)
      case hy707 => ((refine .inl ⟨by rfl, ?_⟩); intro w hS; go_simp; (try with_reducible rfl))
      case hq707 => exact fun _ _ _ h => h
      (simp only [Act.put, List.setIfInBounds_toArray, List.set_cons_zero, List.set_cons_succ])
      refine wpAnyH_take (i := 7) (oi := ?o708) (v := ?v708) ?hi708 (by kernel_rfl) (by kernel_rfl) (by kernel_rfl) ?hq708 ?hy708 (by assumption) ?hr708
      case hi708 => (simp only [List.getElem?_toArray, List.getElem?_cons_succ, List.getElem?_cons_zero]; rfl)
      case hy708 => ((refine .inl ⟨by rfl, ?_⟩); intro w hS; go_simp; (try with_reducible rfl))
      case hq708 => exact fun _ _ _ h => h
      (simp only [Act.put, List.setIfInBounds_toArray, List.set_cons_zero, List.set_cons_succ])
      refine wpAnyH_take (i := 8) (oi := ?o709) (v := ?v709) ?hi709 (by kernel_rfl) (by kernel_rfl) (by kernel_rfl) ?hq709 ?hy709 (by assumption) ?hr709
      case hi709 => (simp only [List.getElem?_toArray, List.getElem?_cons_succ, List.getElem?_cons_zero]; rfl)
      case hy709 => ((refine .inl ⟨by rfl, ?_⟩); intro w hS; go_simp; (try with_reducible rfl))
      case hq709 => exact fun _ _ _ h => h
      (simp only [Act.put, List.setIfInBounds_toArray, List.set_cons_zero, List.set_cons_succ])
      refine wpAnyH_take (i := 9) (oi := ?o710) (v := ?v710) ?hi710 (by kernel_rfl) (by kernel_rfl) (by kernel_rfl) ?hq710 ?hy710 (by assumption) ?hr710
      case hi710 => (simp only [List.getElem?_toArray, List.getElem?_cons_succ, List.getElem?_cons_zero]; rfl)
      case hy710 => ((refine .inl ⟨by rfl, ?_⟩); intro w hS; obtain ⟨p0, p1, p2, p3⟩ := HP.out _ hS; obtain ⟨q0, q1, q2, q3⟩ := HQ.out _ hS; go_simp; (try with_reducible rfl))
      case hq710 => exact fun _ _ _ h => h
      (simp only [Act.put, List.setIfInBounds_toArray, List.set_cons_zero, List.set_cons_succ])
      refine wpAnyH_take (i := 10) (oi := ?o711) (v := ?v711) ?hi711 (by kernel_rfl) (by kernel_rfl) (by kernel_rfl) ?hq711 ?hy711 (by assumption) ?hr711
      case hi711 => (simp only [List.getElem?_toArray, List.getElem?_cons_succ, List.getElem?_cons_zero]; rfl)
      case hy711 => ((refine .inl ⟨by rfl, ?_⟩); intro w hS; go_simp; (try with_reducible rfl))
      case hq711 => exact fun _ _ _ h => h
      (simp only [Act.put, List.setIfInBounds_toArray, List.set_cons_zero, List.set_cons_succ])
      refine wpAnyH_take (i := 11) (oi := ?o712) (v := ?v712) ?hi712 (by kernel_rfl) (by kernel_rfl) (by kernel_rfl) ?hq712 ?hy712 (by assumption) ?hr712
      case hi712 => (simp only [List.getElem?_toArray, List.getElem?_cons_succ, List.getElem?_cons_zero]; rfl)
      case hy712 => ((refine .inl ⟨by rfl, ?_⟩); intro w hS; go_simp; (try with_reducible rfl))
      case hq712 => exact fun _ _ _ h => h
      (simp only [Act.put, List.setIfInBounds_toArray, List.set_cons_zero, List.set_cons_succ])
      refine wpAnyH_take (i := 12) (oi := ?o713) (v := ?v713) ?hi713 (by kernel_rfl) (by kernel_rfl) (by kernel_rfl) ?hq713 ?hy713 (by assumption) ?hr713
      case hi713 => (simp only [List.getElem?_toArray, List.getElem?_cons_succ, List.getElem?_cons_zero]; rfl)
      case hy713 => ((refine .inl ⟨by rfl, ?_⟩); intro w hS; go_simp; (try with_reducible rfl))
      case hq713 => exact fun _ _ _ h => h
      (simp only [Act.put, List.setIfInBounds_toArray, List.set_cons_zero, List.set_cons_succ])
      refine wpAnyH_take (i := 13) (oi := ?o714) (v := ?v714) ?hi714 (by kernel_rfl) (by kernel_rfl) (by kernel_rfl) ?hq714 ?hy714 (by assumption) ?hr714
      case hi714 => (simp only [List.getElem?_toArray, List.getElem?_cons_succ, List.getElem?_cons_zero]; rfl)
      case hy714 => ((refine .inl ⟨by rfl, ?_⟩); intro w hS; go_simp; (try with_reducible rfl))
      case hq714 => exact fun _ _ _ h => h
      (simp only [Act.put, List.setIfInBounds_toArray, List.set_cons_zero, List.set_cons_succ])
      refine wpAnyH_take (i := 14) (oi := ?o715) (v := ?v715) ?hi715 (by kernel_rfl) (by kernel_rfl) (by kernel_rfl) ?hq715 ?hy715 (by assumption) ?hr715
      case hi715 => (simp only [List.getElem?_toArray, List.getElem?_cons_succ, List.getElem?_cons_zero]; rfl)
      case hy715 => ((refine .inl ⟨by rfl, ?_⟩); intro w hS; go_simp; (try with_reducible rfl))
      case hq715 => exact fun _ _ _ h => h
      (simp only [Act.put, List.setIfInBounds_toArray, List.set_cons_zero, List.set_cons_succ])
      refine wpAnyH_take (i := 15) (oi := ?o716) (v := ?v716) ?hi716 (by kernel_rfl) (by kernel_rfl) (by kernel_rfl) ?hq716 ?hy716 (by assumption) ?hr716
      case hi716 => (simp only [List.getElem?_toArray, List.getElem?_cons_succ, List.getElem?_cons_zero]; rfl)
      case hy716 => ((refine .inl ⟨by rfl, ?_⟩); intro w hS; go_simp; (try with_reducible rfl))
      case hq716 => exact fun _ _ _ h => h
      (simp only [Act.put, List.setIfInBounds_toArray, List.set_cons_zero, List.set_cons_succ])
      refine wpAnyH_take (i := 16) (oi := ?o717) (v := ?v717) ?hi717 (by kernel_rfl) (by kernel_rfl) (by kernel_rfl) ?hq717 ?hy717 (by assumption) ?hr717
      case hi717 => (simp only [List.getElem?_toArray, List.getElem?_cons_succ, List.getElem?_cons_zero]; rfl)
      case hy717 => ((refine .inl ⟨by rfl, ?_⟩); intro w hS; obtain ⟨p0, p1, p2, p3⟩ := HP.out _ hS; obtain ⟨q0, q1, q2, q3⟩ := HQ.out _ hS; go_simp; (try with_reducible rfl))
      case hq717 => exact fun _ _ _ h => h
      (simp only [Act.put, List.setIfInBounds_toArray, List.set_cons_zero, List.set_cons_succ])
      refine wpAnyH_take (i := 17) (oi := ?o718) (v := ?v718) ?hi718 (by kernel_rfl) (by kernel_rfl) (by kernel_rfl) ?hq718 ?hy718 (by assumption) ?hr718
      case hi718 => (simp only [List.getElem?_toArray, List.getElem?_cons_succ, List.getElem?_cons_zero]; rfl)
      case hy718 => ((refine .inl ⟨by rfl, ?_⟩); intro w hS; go_simp; (try with_reducible rfl))
      case hq718 => exact fun _ _ _ h => h
      (simp only [Act.put, List.setIfInBounds_toArray, List.set_cons_zero, List.set_cons_succ])
      refine wpAnyH_take (i := 18) (oi := ?o719) (v := ?v719) ?hi719 (by kernel_rfl) (by kernel_rfl) (by kernel_rfl) ?hq719 ?hy719 (by assumption) ?hr719
      case hi719 => (simp only [List.getElem?_toArray, List.getElem?_cons_succ, List.getElem?_cons_zero]; rfl)
      case hy719 => ((refine .inl ⟨by rfl, ?_⟩); intro w hS; go_simp; (try with_reducible rfl))
      case hq719 => exact fun _ _ _ h => h
      (simp only [Act.put, List.setIfInBounds_toArray, List.set_cons_zero, List.set_cons_succ])
      refine wpAnyH_take (i := 19) (oi := ?o720) (v := ?v720) ?hi720 (by kernel_rfl) (by kernel_rfl) (by kernel_rfl) ?hq720 ?hy720 (by assumption) ?hr720
      case hi720 => (simp only [List.getElem?_toArray, List.getElem?_cons_succ, List.getElem?_cons_zero]; rfl)
      case hy720 => ((refine .inl ⟨by rfl, ?_⟩); intro w hS; go_simp; (try with_reducible rfl))
      case hq720 => exact fun _ _ _ h => h
      (simp only [Act.put, List.setIfInBounds_toArray, List.set_cons_zero, List.set_cons_succ])
      refine wpAnyH_take (i := 20) (oi := ?o721) (v := ?v721) ?hi721 (by kernel_rfl) (by kernel_rfl) (by kernel_rfl) ?hq721 ?hy721 (by assumption) ?hr721
      case hi721 => (simp only [List.getElem?_toArray, List.getElem?_cons_succ, List.getElem?_cons_zero]; rfl)
      case hy721 => ((refine .inl ⟨by rfl, ?_⟩); intro w hS; go_simp; (try with_reducible rfl))
      case hq721 => exact fun _ _ _ h => h
      (simp only [Act.put, List.setIfInBounds_toArray, List.set_cons_zero, List.set_cons_succ])
      refine wpAnyH_take (i := 21) (oi := ?o722) (v := ?v722) ?hi722 (by kernel_rfl) (by kernel_rfl) (by kernel_rfl) ?hq722 ?hy722 (by assumption) ?hr722
      case hi722 => (simp only [List.getElem?_toArray, List.getElem?_cons_succ, List.getElem?_cons_zero]; rfl)
      case hy722 => ((refine .inl ⟨by rfl, ?_⟩); intro w hS; obtain ⟨p0, p1, p2, p3⟩ := HP.out _ hS; obtain ⟨q0, q1, q2, q3⟩ := HQ.out _ hS; go_simp; (try with_reducible rfl))
      case hq722 => exact fun _ _ _ h => h
      (simp only [Act.put, List.setIfInBounds_toArray, List.set_cons_zero, List.set_cons_succ])
      refine wpAnyH_take (i := 22) (oi := ?o723) (v := ?v723) ?hi723 (by kernel_rfl) (by kernel_rfl) (by kernel_rfl) ?hq723 ?hy723 (by assumption) ?hr723
      case hi723 => (simp only [List.getElem?_toArray, List.getElem?_cons_succ, List.getElem?_cons_zero]; rfl)
      case hy723 => ((refine .inl ⟨by rfl, ?_⟩); intro w hS; go_simp; (try with_reducible rfl))
      case hq723 => exact fun _ _ _ h => h
      (simp only [Act.put, List.setIfInBounds_toArray, List.set_cons_zero, List.set_cons_succ])
      refine wpAnyH_take (i := 23) (oi := ?o724) (v := ?v724) ?hi724 (by kernel_rfl) (by kernel_rfl) (by kernel_rfl) ?hq724 ?hy724 (by assumption) ?hr724
      case hi724 => (simp only [List.getElem?_toArray, List.getElem?_cons_succ, List.getElem?_cons_zero]; rfl)
      case hy724 => ((refine .inl ⟨by rfl, ?_⟩); intro w hS; go_simp; (try with_reducible rfl))
      case hq724 => exact fun _ _ _ h => h
      (simp only [Act.put, List.setIfInBounds_toArray, List.set_cons_zero, List.set_cons_succ])
      refine wpAnyH_take (i := 24) (oi := ?o725) (v := ?v725) ?hi725 (by kernel_rfl) (by kernel_rfl) (by kernel_rfl) ?hq725 ?hy725 (by assumption) ?hr725
      case hi725 => (simp only [List.getElem?_toArray, List.getElem?_cons_succ, List.getElem?_cons_zero]; rfl)
      case hy725 => ((refine .inl ⟨by rfl, ?_⟩); intro w hS; go_simp; (try with_reducible rfl))
      case hq725 => exact fun _ _ _ h => h
      (simp only [Act.put, List.setIfInBounds_toArray, List.set_cons_zero, List.set_cons_succ])
      refine wpAnyH_take (i := 25) (oi := ?o726) (v := ?v726) ?hi726 (by kernel_rfl) (by kernel_rfl) (by kernel_rfl) ?hq726 ?hy726 (by assumption) ?hr726
      case hi726 => (simp only [List.getElem?_toArray, List.getElem?_cons_succ, List.getElem?_cons_zero]; rfl)
      case hy726 => ((refine .inl ⟨by rfl, ?_⟩); intro w hS; go_simp; (try with_reducible rfl))
      case hq726 => exact fun _ _ _ h => h
      (simp only [Act.put, List.setIfInBounds_toArray, List.set_cons_zero, List.set_cons_succ])
      refine wpAnyH_take (i := 26) (oi := ?o727) (v := ?v727) ?hi727 (by kernel_rfl) (by kernel_rfl) (by kernel_rfl) ?hq727 ?hy727 (by assumption) ?hr727
      case hi727 => (simp only [List.getElem?_toArray, List.getElem?_cons_succ, List.getElem?_cons_zero]; rfl)
      case hy727 => ((refine .inl ⟨by rfl, ?_⟩); intro w hS; go_simp; (try with_reducible rfl))
      case hq727 => exact fun _ _ _ h => h
      (simp only [Act.put, List.setIfInBounds_toArray, List.set_cons_zero, List.set_cons_succ])
      refine wpAnyH_take (i := 27) (oi := ?o728) (v := ?v728) ?hi728 (by kernel_rfl) (by kernel_rfl) (by kernel_rfl) ?hq728 ?hy728 (by assumption) ?hr728
      case hi728 => (simp only [List.getElem?_toArray, List.getElem?_cons_succ, List.getElem?_cons_zero]; rfl)
      case hy728 => ((refine .inl ⟨by rfl, ?_⟩); intro w hS; go_simp; (try with_reducible rfl))
      case hq728 => exact fun _ _ _ h => h
      (simp only [Act.put, List.setIfInBounds_toArray, List.set_cons_zero, List.set_cons_succ])
      refine wpAnyH_take (i := 28) (oi := ?o729) (v := ?v729) ?hi729 (by kernel_rfl) (by kernel_rfl) (by kernel_rfl) ?hq729 ?hy729 (by assumption) ?hr729
      case hi729 => (simp only [List.getElem?_toArray, List.getElem?_cons_succ, List.getElem?_cons_zero]; rfl)
      case hy729 => ((refine .inl ⟨by rfl, ?_⟩); intro w hS; go_simp; (try with_reducible rfl))
      case hq729 => exact fun _ _ _ h => h
      (simp only [Act.put, List.setIfInBounds_toArray, List.set_cons_zero, List.set_cons_succ])
      refine wpAnyH_take (i := 29) (oi := ?o730) (v := ?v730) ?hi730 (by kernel_rfl) (by kernel_rfl) (by kernel_rfl) ?hq730 ?hy730 (by assumption) ?hr730
      case hi730 => (simp only [List.getElem?_toArray, List.getElem?_cons_succ, List.getElem?_cons_zero]; rfl)
      case hy730 => ((refine .inl ⟨by rfl, ?_⟩); intro w hS; obtain ⟨p0, p1, p2, p3⟩ := HP.out _ hS; obtain ⟨q0, q1, q2, q3⟩ := HQ.out _ hS; go_simp; (try with_reducible rfl))
      case hq730 => exact fun _ _ _ h => h
      (simp only [Act.put, List.setIfInBounds_toArray, List.set_cons_zero, List.set_cons_succ])
      refine wpAnyH_take (i := 30) (oi := ?o731) (v := ?v731) ?hi731 (by kernel_rfl) (by kernel_rfl) (by kernel_rfl) ?hq731 ?hy731 (by assumption) ?hr731
      case hi731 => (simp only [List.getElem?_toArray, List.getElem?_cons_succ, List.getElem?_cons_zero]; rfl)
      case hy731 => ((refine .inl ⟨by rfl, ?_⟩); intro w hS; go_simp; (try with_reducible rfl))
      case hq731 => exact fun _ _ _ h => h
      (simp only [Act.put, List.setIfInBounds_toArray, List.set_cons_zero, List.set_cons_succ])
      refine wpAnyH_take (i := 31) (oi := ?o732) (v := ?v732) ?hi732 (by kernel_rfl) (by kernel_rfl) (by kernel_rfl) ?hq732 ?hy732 (by assumption) ?hr732
      case hi732 => (simp only [List.getElem?_toArray, List.getElem?_cons_succ, List.getElem?_cons_zero]; rfl)
      case hy732 => ((refine .inl ⟨by rfl, ?_⟩); intro w hS; go_simp; (try with_reducible rfl))
      case hq732 => exact fun _ _ _ h => h
      (simp only [Act.put, List.setIfInBounds_toArray, List.set_cons_zero, List.set_cons_succ])
      refine wpAnyH_take (i := 32) (oi := ?o733) (v := ?v733) ?hi733 (by kernel_rfl) (by kernel_rfl) (by kernel_rfl) ?hq733 ?hy733 (by assumption) ?hr733
      case hi733 => (simp only [List.getElem?_toArray, List.getElem?_cons_succ, List.getElem?_cons_zero]; rfl)
      case hy733 => ((refine .inl ⟨by rfl, ?_⟩); intro w hS; go_simp; (try with_reducible rfl))
      case hq733 => exact fun _ _ _ h => h
      (simp only [Act.put, List.setIfInBounds_toArray, List.set_cons_zero, List.set_cons_succ])
      refine wpAnyH_take (i := 33) (oi := ?o734) (v := ?v734) ?hi734 (by kernel_rfl) (by kernel_rfl) (by kernel_rfl) ?hq734 ?hy734 (by assumption) ?hr734
      case hi734 => (simp only [List.getElem?_toArray, List.getElem?_cons_succ, List.getElem?_cons_zero]; rfl)
      case hy734 => ((refine .inl ⟨by rfl, ?_⟩); intro w hS; go_simp; (try with_reducible rfl))
      case hq734 => exact fun _ _ _ h => h
      (simp only [Act.put, List.setIfInBounds_toArray, List.set_cons_zero, List.set_cons_succ])
      refine wpAnyH_take (i := 34) (oi := ?o735) (v := ?v735) ?hi735 (by kernel_rfl) (by kernel_rfl) (by kernel_rfl) ?hq735 ?hy735 (by assumption) ?hr735
      case hi735 => (simp only [List.getElem?_toArray, List.getElem?_cons_succ, List.getElem?_cons_zero]; rfl)
      case hy735 => ((refine .inl ⟨by rfl, ?_⟩); intro w hS; obtain ⟨p0, p1, p2, p3⟩ := HP.out _ hS; obtain ⟨q0, q1, q2, q3⟩ := HQ.out _ hS; go_simp; (try with_reducible rfl))
      case hq735 => exact fun _ _ _ h => h
      (simp only [Act.put, List.setIfInBounds_toArray, List.set_cons_zero, List.set_cons_succ])
      refine wpAnyH_take (i := 35) (oi := ?o736) (v := ?v736) ?hi736 (by kernel_rfl) (by kernel_rfl) (by kernel_rfl) ?hq736 ?hy736 (by assumption) ?hr736
      case hi736 => (simp only [List.getElem?_toArray, List.getElem?_cons_succ, List.getElem?_cons_zero]; rfl)
      case hy736 => ((refine .inl ⟨by rfl, ?_⟩); intro w hS; go_simp; (try with_reducible rfl))
      case hq736 => exact fun _ _ _ h => h
      (simp only [Act.put, List.setIfInBounds_toArray, List.set_cons_zero, List.set_cons_succ])
      refine wpAnyH_take (i := 36) (oi := ?o737) (v := ?v737) ?hi737 (by kernel_rfl) (by kernel_rfl) (by kernel_rfl) ?hq737 ?hy737 (by assumption) ?hr737
      case hi737 => (simp only [List.getElem?_toArray, List.getElem?_cons_succ, List.getElem?_cons_zero]; rfl)
      case hy737 => ((refine .inl ⟨by rfl, ?_⟩); intro w hS; go_simp; (try with_reducible rfl))
      case hq737 => exact fun _ _ _ h => h
      (simp only [Act.put, List.setIfInBounds_toArray, List.set_cons_zero, List.set_cons_succ])
      refine wpAnyH_take (i := 37) (oi := ?o738) (v := ?v738) ?hi738 (by kernel_rfl) (by kernel_rfl) (by kernel_rfl) ?hq738 ?hy738 (by assumption) ?hr738
      case hi738 => (simp only [List.getElem?_toArray, List.getElem?_cons_succ, List.getElem?_cons_zero]; rfl)
      case hy738 => ((refine .inl ⟨by rfl, ?_⟩); intro w hS; go_simp; (try with_reducible rfl))
      case hq738 => exact fun _ _ _ h => h
      (simp only [Act.put, List.setIfInBounds_toArray, List.set_cons_zero, List.set_cons_succ])
      refine wpAnyH_take (i := 38) (oi := ?o739) (v := ?v739) ?hi739 (by kernel_rfl) (by kernel_rfl) (by kernel_rfl) ?hq739 ?hy739 (by assumption) ?hr739
      case hi739 => (simp only [List.getElem?_toArray, List.getElem?_cons_succ, List.getElem?_cons_zero]; rfl)
      case hy739 => ((refine .inl ⟨by rfl, ?_⟩); intro w hS; go_simp; (try with_reducible rfl))
      case hq739 => exact fun _ _ _ h => h
      (simp only [Act.put, List.setIfInBounds_toArray, List.set_cons_zero, List.set_cons_succ])
      refine wpAnyH_take (i := 39) (oi := ?o740) (v := ?v740) ?hi740 (by kernel_rfl) (by kernel_rfl) (by kernel_rfl) ?hq740 ?hy740 (by assumption) ?hr740
      case hi740 => (simp only [List.getElem?_toArray, List.getElem?_cons_succ, List.getElem?_cons_zero]; rfl)
      case hy740 => ((refine .inl ⟨by rfl, ?_⟩); intro w hS; go_simp; (try with_reducible rfl))
      case hq740 => exact fun _ _ _ h => h
      (simp only [Act.put, List.setIfInBounds_toArray, List.set_cons_zero, List.set_cons_succ])
      refine wpAnyH_take (i := 40) (oi := ?o741) (v := ?v741) ?hi741 (by kernel_rfl) (by kernel_rfl) (by kernel_rfl) ?hq741 ?hy741 (by assumption) ?hr741
      case hi741 => (simp only [List.getElem?_toArray, List.getElem?_cons_succ, List.getElem?_cons_zero]; rfl)
      case hy741 => ((refine .inl ⟨by rfl, ?_⟩); intro w hS; go_simp; (try with_reducible rfl))
      case hq741 => exact fun _ _ _ h => h
      (simp only [Act.put, List.setIfInBounds_toArray, List.set_cons_zero, List.set_cons_succ])
      refine wpAnyH_take (i := 41) (oi := ?o742) (v := ?v742) ?hi742 (by kernel_rfl) (by kernel_rfl) (by kernel_rfl) ?hq742 ?hy742 (by assumption) ?hr742
      case hi742 => (simp only [List.getElem?_toArray, List.getElem?_cons_succ, List.getElem?_cons_zero]; rfl)
      case hy742 => ((refine .inl ⟨by rfl, ?_⟩); intro w hS; go_simp; (try with_reducible rfl))
      case hq742 => exact fun _ _ _ h => h
      (simp only [Act.put, List.setIfInBounds_toArray, List.set_cons_zero, List.set_cons_succ])
      refine wpAnyH_take (i := 42) (oi := ?o743) (v := ?v743) ?hi743 (by kernel_rfl) (by kernel_rfl) (by kernel_rfl) ?hq743 ?hy743 (by assumption) ?hr743
      case hi743 => (simp only [List.getElem?_toArray, List.getElem?_cons_succ, List.getElem?_cons_zero]; rfl)
      case hy743 => ((refine .inl ⟨by rfl, ?_⟩); intro w hS; obtain ⟨p0, p1, p2, p3⟩ := HP.out _ hS; obtain ⟨q0, q1, q2, q3⟩ := HQ.out _ hS; go_simp; (try with_reducible rfl))
      case hq743 => exact fun _ _ _ h => h
      (simp only [Act.put, List.setIfInBounds_toArray, List.set_cons_zero, List.set_cons_succ])
      refine wpAnyH_take (i := 43) (oi := ?o744) (v := ?v744) ?hi744 (by kernel_rfl) (by kernel_rfl) (by kernel_rfl) ?hq744 ?hy744 (by assumption) ?hr744
      case hi744 => (simp only [List.getElem?_toArray, List.getElem?_cons_succ, List.getElem?_cons_zero]; rfl)
      case hy744 => ((refine .inl ⟨by rfl, ?_⟩); intro w hS; go_simp; (try with_reducible rfl))
      case hq744 => exact fun _ _ _ h => h
      (simp only [Act.put, List.setIfInBounds_toArray, List.set_cons_zero, List.set_cons_succ])
      refine wpAnyH_take (i := 44) (oi := ?o745) (v := ?v745) ?hi745 (by kernel_rfl) (by kernel_rfl) (by kernel_rfl) ?hq745 ?hy745 (by assumption) ?hr745
      case hi745 => (simp only [List.getElem?_toArray, List.getElem?_cons_succ, List.getElem?_cons_zero]; rfl)
      case hy745 => ((refine .inl ⟨by rfl, ?_⟩); intro w hS; go_simp; (try with_reducible rfl))
      case hq745 => exact fun _ _ _ h => h
      (simp only [Act.put, List.setIfInBounds_toArray, List.set_cons_zero, List.set_cons_succ])
      refine wpAnyH_take (i := 45) (oi := ?o746) (v := ?v746) ?hi746 (by kernel_rfl) (by kernel_rfl) (by kernel_rfl) ?hq746 ?hy746 (by assumption) ?hr746
      case hi746 => (simp only [List.getElem?_toArray, List.getElem?_cons_succ, List.getElem?_cons_zero]; rfl)
      case hy746 => ((refine .inl ⟨by rfl, ?_⟩); intro w hS; go_simp; (try with_reducible rfl))
      case hq746 => exact fun _ _ _ h => h
      (simp only [Act.put, List.setIfInBounds_toArray, List.set_cons_zero, List.set_cons_succ])
      refine wpAnyH_take (i := 46) (oi := ?o747) (v := ?v747) ?hi747 (by kernel_rfl) (by kernel_rfl) (by kernel_rfl) ?hq747 ?hy747 (by assumption) ?hr747
      case hi747 => (simp only [List.getElem?_toArray, List.getElem?_cons_succ, List.getElem?_cons_zero]; rfl)
      case hy747 => ((refine .inl ⟨by rfl, ?_⟩); intro w hS; go_simp; (try with_reducible rfl))
      case hq747 => exact fun _ _ _ h => h
      (simp only [Act.put, List.setIfInBounds_toArray, List.set_cons_zero, List.set_cons_succ])
      refine wpAnyH_take (i := 47) (oi := ?o748) (v := ?v748) ?hi748 (by kernel_rfl) (by kernel_rfl) (by kernel_rfl) ?hq748 ?hy748 (by assumption) ?hr748
      case hi748 => (simp only [List.getElem?_toArray, List.getElem?_cons_succ, List.getElem?_cons_zero]; rfl)
      case hy748 => ((refine .inl ⟨by rfl, ?_⟩); intro w hS; obtain ⟨p0, p1, p2, p3⟩ := HP.out _ hS; obtain ⟨q0, q1, q2, q3⟩ := HQ.out _ hS; go_simp; (try with_reducible rfl))
      case hq748 => exact fun _ _ _ h => h
      (simp only [Act.put, List.setIfInBounds_toArray, List.set_cons_zero, List.set_cons_succ])
      refine wpAnyH_ready (rs := [48]) (by kernel_rfl) (by simp) ?_
      refine AllReadyH.cons rfl (fun K hK => ?_) AllReadyH.nil
      go_simp
      go_wp2_with (((with_reducible refine (C.out _ hHeld).mono ?_); rintro e w3 ⟨rfl, hb3⟩))
      refine hK.out _ _ (hHeld.trans (hb3.mono hHeld.size)) (fun hHeld1 => ?_)
      clear hK K
      (try simp only [Act.put, List.setIfInBounds_toArray, List.set_cons_zero, List.set_cons_succ])
      clear hHeld; have hHeld := hHeld1; clear hHeld1
      refine wpAnyH_take (i := 49) (oi := ?o749) (v := ?v749) ?hi749 (by kernel_rfl) (by kernel_rfl) (by kernel_rfl) ?hq749 ?hy749 (by assumption) ?hr749
      case hi749 => (simp only [List.getElem?_toArray, List.getElem?_cons_succ, List.getElem?_cons_zero]; rfl)
      case hy749 => ((refine .inl ⟨by rfl, ?_⟩); intro w hS; go_simp; (try with_reducible rfl))
      case hq749 => exact fun _ _ _ h => h
      (simp only [Act.put, List.setIfInBounds_toArray, List.set_cons_zero, List.set_cons_succ])
      refine wpAnyH_take (i := 50) (oi := ?o750) (v := ?v750) ?hi750 (by kernel_rfl) (by kernel_rfl) (by kernel_rfl) ?hq750 ?hy750 (by assumption) ?hr750
      case hi750 => (simp only [List.getElem?_toArray, List.getElem?_cons_succ, List.getElem?_cons_zero]; rfl)
      case hy750 => ((refine .inl ⟨by rfl, ?_⟩); intro w hS; go_simp; (try with_reducible rfl))
      case hq750 => exact fun _ _ _ h => h
      (simp only [Act.put, List.setIfInBounds_toArray, List.set_cons_zero, List.set_cons_succ])
      refine wpAnyH_done (by kernel_rfl) ?_ _
      go_wp2_with fail
      go_roundw
      case rel => first | exact ⟨k + 1, by omega, by go_num, HBE.out.trans (hHeld.mono HBE.out.size)⟩ | exact ⟨_, _, _, ⟨k + 1, by omega, by simp, HBE.out.trans (hHeld.mono HBE.out.size)⟩, rfl, rfl, rfl⟩
      case measure => simp [intOf]; omega
    · have hge : ¬ (k : Int) < (n : Int) := by omega
      go_wp2_with fail
      go_ret
      exact ⟨rfl, hbel⟩

/-! ### Join -/
def joinB (bl : List ByteArray) : ByteArray := ⟨((bl.map (·.data.toList)).flatten).toArray⟩
theorem jn_nil (xs : List (List UInt8)) : Lib.join xs [] = xs.flatten := by
  unfold Lib.join
  induction xs with
  | nil => rfl
  | cons x r ih =>
    cases r with
    | nil => simp [List.intercalate]
    | cons y r => simp [List.intercalate] at ih ⊢; exact ih
theorem join_any (A : Option Addr) (c : Nat) (bl : List ByteArray) (w : World) (hs : SlAt w w.heap.size A (strV bl)) (hc : bl.length ≤ c) (hl : bl.length ≤ 1000000) (hj : (joinB bl).size ≤ 140737488355328) :
    Calls Try.prog 49 #[.slice A bl.length c, .string ⟨#[]⟩] w fun e w' => e = .returned (.string (joinB bl)) ∧ Below w.heap.size w w' := by
  by_cases h0 : bl = []
  · subst h0
    have HJ : Hid (joinB [] = ⟨#[]⟩) := Lib.hid rfl
    rw [HJ.out]
    clear hj HJ hs
    go_enter Try.func49, Try.ntmps49
    go_wp2_with fail
    go_ret
    exact ⟨rfl, Below.refl _ _⟩
  · obtain ⟨b, off, hA, hb⟩ := hs.strAddr (List.length_pos_iff.2 h0)
    subst hA
    have e1 : Lib.join (bl.map (·.data.toList)) (⟨#[]⟩ : ByteArray).data.toList = (bl.map (·.data.toList)).flatten := jn_nil _
    have := Try.strings_Join b off c bl ⟨#[]⟩ w (fun j x hj => hs.str rfl hj) hb (by omega) hc (by rw [e1]; exact hj)
    rwa [e1] at this

/-! ### Acts -/
structure Ac where
  kind : Int
  num : Int
  A : Option Addr
  cap : Nat
  bl : List ByteArray
def encC (x : Ac) : List Value := [.int .i64 x.kind, .int .i64 x.num, .slice x.A x.bl.length x.cap]
theorem encC_length (x : Ac) : (encC x).length = 3 := rfl
def AcAt (w : World) (B : Nat) (A : Option Addr) (acs : List Ac) : Prop := SlAt w B A (flat encC acs) ∧ ∀ x ∈ acs, SlAt w B x.A (strV x.bl) ∧ x.bl.length ≤ x.cap ∧ x.cap ≤ maxLen
section
variable {w w' : World} {B C : Nat} {A : Option Addr} {acs : List Ac}
theorem AcAt.below (h : AcAt w B A acs) (hb : Below B w w') : AcAt w' B A acs := ⟨h.1.below hb, fun x hx => ⟨(h.2 x hx).1.below hb, (h.2 x hx).2⟩⟩
theorem AcAt.one (h : AcAt w B A acs) (hp : 0 < acs.length) : ∃ b off, A = some ⟨b, off, none⟩ ∧ b < B := by
  obtain ⟨b, off, hA, hb, _⟩ := h.1.one (by rw [flat_length encC_length]; omega)
  exact ⟨b, off, hA, hb⟩
theorem AcAt.cells (h : AcAt w B A acs) {b off : Nat} (hA : A = some ⟨b, off, none⟩) {k : Nat} {x : Ac} (hk : acs[k]? = some x) :
    w.cell? ⟨b, off + k * 3, none⟩ = some (.int .i64 x.kind) ∧ w.cell? ⟨b, off + k * 3 + 1, none⟩ = some (.int .i64 x.num) ∧ w.cell? ⟨b, off + k * 3 + 2, none⟩ = some (.slice x.A x.bl.length x.cap) := by
  have c : ∀ j, j < 3 → ∀ u, (encC x)[j]? = some u → w.cell? ⟨b, off + (k * 3 + j), none⟩ = some u := fun j hj u hu => by
    obtain ⟨b', off', e, _, hc⟩ := h.1 (k * 3 + j) u ((flat_get encC_length acs k j x hk hj).trans hu)
    rw [hA] at e
    injection e with e
    injection e with e1 e2 _
    subst e1 e2
    exact hc
  refine ⟨c 0 (by omega) _ rfl, ?_, ?_⟩
  · rw [Nat.add_assoc]; exact c 1 (by omega) _ rfl
  · rw [Nat.add_assoc]; exact c 2 (by omega) _ rfl
end
def fewA (acs : List Ac) : Bool := (acs.all fun x => decide (x.bl.length ≤ 20)) && decide (acs.length ≤ 20)
theorem fewA_iff {acs : List Ac} (h : fewA acs = true) : (∀ x ∈ acs, x.bl.length ≤ 20) ∧ acs.length ≤ 20 := by
  unfold fewA at h
  simp only [Bool.and_eq_true, decide_eq_true_eq, List.all_eq_true] at h
  exact h
set_option maxHeartbeats 1000000 in
theorem fewacts_any (A : Option Addr) (c : Nat) (acs : List Ac) (w : World) (h : AcAt w w.heap.size A acs) (hl : acs.length ≤ 9223372036854775807) :
    Calls Try.prog 42 #[.slice A acs.length c] w fun e w' => e = .returned (.bool (fewA acs)) ∧ w = w' := by
  have HW := Lib.hid h
  obtain ⟨n, hn⟩ : ∃ n, acs.length = n := ⟨_, rfl⟩
  have HF : Hid (fewA acs = ((acs.all fun x => decide (x.bl.length ≤ 20)) && decide (n ≤ 20))) := Lib.hid (by unfold fewA; rw [hn])
  have HN := Lib.hid hn
  rw [hn] at hl
  rw [hn, HF.out]
  clear h hn HF
  go_enter Try.func42, Try.ntmps42
  go_wp2_with fail
  go_loop [3] (fun i => ∃ k : Nat, k ≤ n ∧ i = .int .i64 k ∧ Hid ((acs.take k).all (fun x => decide (x.bl.length ≤ 20)) = true)) (fun i => n - (intOf i).toNat)
  case atStart => exact ⟨0, by omega, rfl, Lib.hid (by simp)⟩
  case round =>
    obtain ⟨k, hk, rfl, HS⟩ := hrel
    by_cases hlt : k < n
    · obtain ⟨x, hx⟩ : ∃ x, acs[k]? = some x := ⟨acs[k]'(by rw [HN.out]; exact hlt), List.getElem?_eq_getElem _⟩
      obtain ⟨b, off, hA, hbk⟩ := HW.out.one (by rw [HN.out]; omega)
      subst hA
      obtain ⟨p0, p1, p2⟩ := HW.out.cells rfl hx
      have hltI : (k : Int) < (n : Int) := by omega
      have h0k : (0 : Int) ≤ (k : Int) := by omega
      obtain ⟨xk, xn, xA, xc, xb⟩ := x
      dsimp only at p0 p1 p2
      by_cases h4 : xb.length ≤ 20
      · have h4I : ¬ (20 : Int) < (xb.length : Int) := by omega
        have HS1 := Lib.hid (all_snoc (p := fun x : Ac => decide (x.bl.length ≤ 20)) hx)
        clear hx
        go_wp2_with fail
        go_round
        case rel => exact ⟨k + 1, by omega, by go_num, Lib.hid (by rw [HS1.out, HS.out]; exact decide_eq_true h4)⟩
        case measure => simp [intOf]; omega
      · have h4I : (20 : Int) < (xb.length : Int) := by omega
        have HNO := Lib.hid (all_no (p := fun x : Ac => decide (x.bl.length ≤ 20)) hx (decide_eq_false h4))
        clear hx
        go_wp2_with fail
        go_ret
        exact ⟨ret_bool (by rw [HNO.out]; rfl), rfl⟩
    · obtain rfl : k = n := by omega
      have hge : ¬ (k : Int) < (k : Int) := by omega
      have HS1 : Hid (acs.all (fun x => decide (x.bl.length ≤ 20)) = true) := Lib.hid (by have := HS.out; rwa [List.take_of_length_le (by rw [HN.out]; omega)] at this)
      by_cases h3 : k ≤ 20
      · have h3d : Hid (decide (k ≤ 20) = true) := Lib.hid (decide_eq_true h3)
        have h3I : (k : Int) ≤ 20 := by omega
        go_wp2_with fail
        go_ret
        exact ⟨ret_bool (by first | rfl | rw [HS1.out] | (rw [HS1.out, h3d.out]; rfl) | (rw [h3d.out, HS1.out]; rfl) | (rw [h3d.out, Bool.and_false])), rfl⟩
      · have h3d : Hid (decide (k ≤ 20) = false) := Lib.hid (decide_eq_false h3)
        have h3I : ¬ (k : Int) ≤ 20 := by omega
        go_wp2_with fail
        go_ret
        exact ⟨ret_bool (by first | rfl | rw [HS1.out] | (rw [HS1.out, h3d.out]; rfl) | (rw [h3d.out, HS1.out]; rfl) | (rw [h3d.out, Bool.and_false])), rfl⟩

/-! ### What an act does -/
structure AcR where
  ba : Int
  l : List Pend
  x : List Int
  cs : List (Int × List ByteArray × Bool × Bool)
  E : Int
def acR (st ba : Int) (l : List Pend) (kind num : Int) (bl : List ByteArray) : AcR :=
  if kind = 0 then ⟨ba, apL st ba l bl, apO st ba l bl, [], apE st ba l bl⟩
  else if kind = 1 then ⟨ba, rsL st ba l num, rsO st ba l num, [], rsE st ba l num⟩
  else if kind = 2 then ⟨ba, fiL l num (joinB bl), [], [], fillE l num (joinB bl)⟩
  else if flE st ba l (joinB bl) ≠ 0 ∨ (l = [] ∧ (joinB bl).toList = []) then ⟨ba, l, [], [], flE st ba l (joinB bl)⟩
  else ⟨ctlL st ba l + 1, [], [], (List.range ((ctlL st ba l + 1 - ba).toNat / 8)).map (fcore st ba l (joinB bl) ((ctlL st ba l + 1 - ba).toNat / 8)), 0⟩
section
variable {st ba : Int} {l : List Pend} {kind num : Int} {bl : List ByteArray}
theorem acR_0 : acR st ba l 0 num bl = ⟨ba, apL st ba l bl, apO st ba l bl, [], apE st ba l bl⟩ := by unfold acR; rw [if_pos rfl]
theorem acR_1 : acR st ba l 1 num bl = ⟨ba, rsL st ba l num, rsO st ba l num, [], rsE st ba l num⟩ := by unfold acR; rw [if_neg (by decide), if_pos rfl]
theorem acR_2 : acR st ba l 2 num bl = ⟨ba, fiL l num (joinB bl), [], [], fillE l num (joinB bl)⟩ := by unfold acR; rw [if_neg (by decide), if_neg (by decide), if_pos rfl]
theorem acR_no (h0 : kind ≠ 0) (h1 : kind ≠ 1) (h2 : kind ≠ 2) (h : flE st ba l (joinB bl) ≠ 0 ∨ (l = [] ∧ (joinB bl).toList = [])) : acR st ba l kind num bl = ⟨ba, l, [], [], flE st ba l (joinB bl)⟩ := by
  unfold acR; rw [if_neg h0, if_neg h1, if_neg h2, if_pos h]
theorem acR_go (h0 : kind ≠ 0) (h1 : kind ≠ 1) (h2 : kind ≠ 2) (h : flE st ba l (joinB bl) = 0) (h' : ¬ (l = [] ∧ (joinB bl).toList = [])) {m : Nat} (hm : (8 * m : Int) = ctlL st ba l + 1 - ba) : acR st ba l kind num bl = ⟨ctlL st ba l + 1, [], [], (List.range m).map (fcore st ba l (joinB bl) m), 0⟩ := by
  unfold acR
  rw [if_neg h0, if_neg h1, if_neg h2, if_neg (by simp only [not_or]; exact ⟨fun c => c h, h'⟩), show (ctlL st ba l + 1 - ba).toNat / 8 = m by omega]
/-- The invariant goes through every act. -/
theorem wok_ac (h : Wok st ba l) : Wok st (acR st ba l kind num bl).ba (acR st ba l kind num bl).l := by
  by_cases h0 : kind = 0
  · subst h0
    rw [acR_0]
    dsimp only
    unfold apL
    cases hb : bl.all blkOk with
    | false => rw [if_neg (by decide)]; exact h
    | true =>
      rw [if_pos rfl]
      cases hs : asgL st ba l bl.length with
      | none => exact h
      | some out =>
        refine h.more hs fun i hi => .inr ?_
        have hlen := (asgL_spec hs).1
        rw [List.getElem?_eq_getElem (by omega), Option.getD_some]
        exact List.all_eq_true.1 hb _ (List.getElem_mem _)
  · by_cases h1 : kind = 1
    · subst h1
      rw [acR_1]
      dsimp only
      unfold rsL
      split
      · exact h
      · cases hs : asgL st ba l num.toNat with
        | none => exact h
        | some out => exact h.more hs fun i hi => .inl (by simp [blankS, ByteArray.toList_eq])
    · by_cases h2 : kind = 2
      · subst h2
        rw [acR_2]
        dsimp only
        unfold fiL
        split
        · rename_i hE
          have hsz : (joinB bl).size = 2048 := by
            unfold fillE at hE
            by_cases hs : (joinB bl).size = 2048
            · exact hs
            · rw [if_pos hs] at hE; cases hE
          rcases findP_cases l num with ⟨hf, _⟩ | ⟨k, x, hf, hx, hxa, _⟩
          · unfold fillE at hE
            rw [if_neg (by omega), if_pos (by omega)] at hE
            cases hE
          · have hlk := (List.getElem?_eq_some_iff.1 hx).1
            have hmap : (setL l num (joinB bl)).map (·.lba) = l.map (·.lba) := by
              unfold setL
              rw [hf, Int.toNat_natCast, List.map_set]
              refine List.ext_getElem? fun j => ?_
              rw [List.getElem?_set]
              by_cases hj : k = j
              · subst hj
                rw [if_pos rfl, if_pos (by simpa using hlk), List.getElem?_map, hx, Option.map_some, hxa]
              · rw [if_neg hj]
            have hmem : ∀ y ∈ setL l num (joinB bl), y ∈ l ∨ (y.lba = x.lba ∧ y.blk = joinB bl) := fun y hy => by
              unfold setL at hy
              rcases List.mem_or_eq_of_mem_set hy with h3 | h3
              · exact .inl h3
              · right; rw [h3]; exact ⟨hxa.symm, rfl⟩
            refine ⟨h.st0, h.stba, h.b8, h.ba4, by rw [hmap]; exact h.inc, fun y hy => ?_, fun y hy => ?_⟩
            · rcases hmem y hy with h3 | ⟨h3, _⟩
              · exact h.each y h3
              · rw [h3]; exact h.each x (List.mem_of_getElem? hx)
            · rcases hmem y hy with h3 | ⟨_, h3⟩
              · exact h.blk y h3
              · right; rw [h3]; exact decide_eq_true hsz
        · exact h
      · by_cases h3 : flE st ba l (joinB bl) ≠ 0 ∨ (l = [] ∧ (joinB bl).toList = [])
        · rw [acR_no h0 h1 h2 h3]; exact h
        · simp only [not_or, Decidable.not_not] at h3
          have hct := h.ctl
          have hb8 := h.b8
          rw [acR_go h0 h1 h2 h3.1 h3.2 (m := (ctlL st ba l + 1 - ba).toNat / 8) (by omega)]
          refine h.flushed ?_
          have hE := h3.1
          unfold flE at hE
          by_cases c1 : (joinB bl).toList ≠ [] ∧ (joinB bl).size ≠ 2048
          · rw [if_pos c1] at hE; cases hE
          · by_cases c2 : openL l ≠ []
            · rw [if_neg c1, if_pos c2] at hE; cases hE
            · by_cases c3 : 4096 < ctlL st ba l + 1
              · rw [if_neg c1, if_neg c2, if_neg h3.2, if_pos c3] at hE; cases hE
              · omega
end
end Go.Proofs.Ytdmdfpdigoijoaa

/-
  Chapter 52: the law's call: one act on the program's writer.
-/
namespace Go.Proofs.Ytdmdfpdigoijoaa
open Go.RowKit
set_option linter.unusedVariables false

theorem Two.trans' {w w1 w2 : World} {g : Nat} {r : Option Nat} (h : Two w w1 g r) (h2 : Two w1 w2 g r) : Two w w2 g r :=
  ⟨h2.os.trans h.os, h2.tape.trans h.tape, h2.output.trans h.output, Nat.le_trans h.size h2.size, fun k hk h1 h3 => (h2.block k (Nat.lt_of_lt_of_le hk h.size) h1 h3).trans (h.block k hk h1 h3)⟩
theorem asgL_zero {st ba : Int} {l : List Pend} : asgL st ba l 0 = some [] := by
  unfold asgL
  show asgR st 0 (4999 + 1) _ _ = _
  rw [asgR, if_pos (Nat.zero_le _)]
set_option maxRecDepth 100000 in
set_option maxHeartbeats 2000000 in
theorem append_nil (base0 g : Nat) (st ba : Int) (l : List Pend) (A Al : Option Addr) (c cl : Nat) (w : World)
    (hr : RowAt w g 109 #[.int .i64 st, .int .i64 ba, .slice Al l.length cl]) (ho : w.ownsRow base0 114 2 (.slice Al l.length cl) l.length (flat encP l)) (hl : l.length ≤ 100000) (hst : 0 ≤ st) (h1 : st ≤ nextL ba l) (h2 : nextL ba l ≤ 4200) :
    Calls Try.prog 25 #[.pointer (some ⟨g, 0, none⟩), .slice A 0 c] w (AppRes base0 g st ba l [] (Value.slice Al l.length cl).ownBlock w) := by
  have CB := Lib.hid (acontains_any A c [] w (SlAt.nil _ _ _) (by decide))
  have CA := Lib.hid (assign_any base0 g st ba l 0 w ⟨Al, cl, hr, ho⟩ (by omega) (by omega) hst h1 h2)
  unfold AsgRes at CA
  rw [asgL_zero] at CA
  rw [show ([] : List ByteArray).all blkOk = true from rfl] at CB
  have HR := Lib.hid hr
  have HO := Lib.hid ho
  clear hr ho h1 h2 hst hl
  go_enter Try.func25, Try.ntmps25
  go_wp2_with fail
  refine CB.out.mono ?_
  rintro e w' ⟨rfl, rfl⟩
  go_wp2_with fail
  refine CA.out.mono ?_
  rintro e w1 ⟨hb1, (⟨hno, _⟩ | ⟨out, A1, c1, ho1, rfl, hoo⟩)⟩
  · cases hno
  · injection ho1 with ho1
    subst ho1
    have HB1 := Lib.hid hb1
    have HOO := Lib.hid hoo
    clear hb1 hoo CB CA
    go_wp2_with fail
    refine wp_loop_rounds 1 ?_
    rw [rounds_succ]
    go_wp2_with fail
    go_ret2
    exact .inr ⟨[], A1, c1, asgL_zero, rfl, HOO.out, ⟨Al, cl, by rw [moreP_length]; exact HR.out.below HB1.out HR.out.lt, by rw [moreP_length]; simpa [moreP] using own_all HO.out HB1.out⟩, (Two.refl _ _ _).below HB1.out⟩
theorem append_all (base0 g : Nat) (st ba : Int) (l : List Pend) (A Al : Option Addr) (c cl : Nat) (bl : List ByteArray) (w : World) (hs : SlAt w w.heap.size A (strV bl)) (hbl : bl.length ≤ 100000) (hb : bl.all blkOk = true)
    (hr : RowAt w g 109 #[.int .i64 st, .int .i64 ba, .slice Al l.length cl]) (ho : w.ownsRow base0 114 2 (.slice Al l.length cl) l.length (flat encP l)) (hl : l.length ≤ 100000) (hst : 0 ≤ st) (h1 : st ≤ nextL ba l) (h2 : nextL ba l ≤ 4200)
    (hb0 : base0 ≤ w.heap.size) (hsep : ∀ b off, A = some ⟨b, off, none⟩ → 0 < bl.length → b ≠ g ∧ some b ≠ (Value.slice Al l.length cl).ownBlock) :
    Calls Try.prog 25 #[.pointer (some ⟨g, 0, none⟩), .slice A bl.length c] w (AppRes base0 g st ba l bl (Value.slice Al l.length cl).ownBlock w) := by
  by_cases hbn : bl = []
  · subst hbn
    exact append_nil base0 g st ba l A Al c cl w hr ho hl hst h1 h2
  · exact append_any base0 g st ba l A Al c cl bl w hs hbl hb hr ho hl hst h1 h2 (fun out h => (asgL_spec h).1) hb0 (fun b off hA => hsep b off hA (List.length_pos_iff.2 hbn))
theorem RowAt.two {w w' : World} {k g : Nat} {r : Option Nat} {t : TypeId} {cs : Array Value} (h : RowAt w k t cs) (ht : Two w w' g r) (h1 : k ≠ g) (h2 : some k ≠ r) : RowAt w' k t cs := (ht.block k h.lt h1 h2).trans h
theorem fill_sum {base0 g : Nat} {st ba a E : Int} {l : List Pend} {b : ByteArray} {r : Option Nat} {w w' : World} {e : Ending} (h : FillRes base0 g st ba l a b r w e w') (hwt : WtAt w base0 g st ba l) (hE : fillE l a b = E) : e = .returned (.int .i64 E) ∧ WtAt w' base0 g st ba (fiL l a b) ∧ Two w w' g r := by
  rcases h with ⟨h1, rfl, hb⟩ | ⟨h1, rfl, hw, ht⟩
  · exact ⟨by rw [hE], by rw [fiL_no rfl h1]; exact hwt.below' hb, (Two.refl _ _ _).below hb⟩
  · exact ⟨by rw [← hE, h1], by unfold fiL; rw [if_pos h1]; exact hw, ht⟩
/-- What the law's call answers. -/
def CallRes (base0 g : Nat) (st : Int) (R : AcR) (r : Option Nat) (w : World) (e : Ending) (w' : World) : Prop :=
  ∃ (Ax : Option Addr) (cx : Nat) (ws : List Wr) (Aw : Option Addr) (cw : Nat), e = .returned (.tuple #[.slice Ax R.x.length cx, .slice Aw ws.length cw, .int .i64 R.E]) ∧ ws.map wcore = R.cs ∧ w'.ownsRow w.heap.size 3 1 (.slice Ax R.x.length cx) R.x.length (intV R.x) ∧ WsAt w' w'.heap.size Aw ws ∧ WtAt w' base0 g st R.ba R.l ∧ Two w w' g r
theorem callres_none {base0 g : Nat} {st ba : Int} {l : List Pend} {R : AcR} {r : Option Nat} {w w' : World} (hR : R.x = []) (hc : R.cs = []) (hl : R.l = l) (hb : R.ba = ba) (hwt : WtAt w' base0 g st ba l) (ht : Two w w' g r) : CallRes base0 g st R r w (.returned (.tuple #[.slice none 0 0, .slice none 0 0, .int .i64 R.E])) w' := by
  refine ⟨none, 0, [], none, 0, by rw [hR]; rfl, by rw [hc]; rfl, by rw [hR]; exact World.ownsRow_nil _ _ _ _, WsAt.nil _ _ _, by rw [hl, hb]; exact hwt, ht⟩
theorem callres_more {base0 g c : Nat} {st ba : Int} {l' : List Pend} {out : List Int} {A : Option Addr} {R : AcR} {r : Option Nat} {w w1 w' : World} (hR : R = ⟨ba, l', out, [], 0⟩) (ho : w'.ownsRow w1.heap.size 3 1 (.slice A out.length c) out.length (intV out)) (hw : w.heap.size ≤ w1.heap.size) (hwt : WtAt w' base0 g st ba l') (ht : Two w w' g r) : CallRes base0 g st R r w (.returned (.tuple #[.slice A out.length c, .slice none 0 0, .int .i64 0])) w' := by
  subst hR
  exact ⟨A, c, [], none, 0, rfl, rfl, own_le ho hw, WsAt.nil _ _ _, hwt, ht⟩

set_option maxRecDepth 100000 in
set_option maxHeartbeats 4000000 in
theorem call_any (base0 g : Nat) (st ba : Int) (l : List Pend) (Al : Option Addr) (cl : Nat) (kd nu : Int) (A : Option Addr) (c : Nat) (bl : List ByteArray) (w : World)
    (hr : RowAt w g 109 #[.int .i64 st, .int .i64 ba, .slice Al l.length cl]) (ho : w.ownsRow base0 114 2 (.slice Al l.length cl) l.length (flat encP l)) (hk : Wok st ba l)
    (hs : SlAt w base0 A (strV bl)) (hbl : bl.length ≤ 20) (hc : bl.length ≤ c) (hj : (joinB bl).size ≤ 1000000000) (hb0 : base0 ≤ w.heap.size) (hg0 : base0 ≤ g) :
    Calls Try.prog 45 #[.pointer (some ⟨g, 0, none⟩), .agg #[.int .i64 kd, .int .i64 nu, .slice A bl.length c]] w (CallRes base0 g st (acR st ba l kd nu bl) (Value.slice Al l.length cl).ownBlock w) := by
  obtain ⟨hrb, hb1⟩ : RowAt (w.alloc (.cells #[.int .i64 kd, .int .i64 nu, .slice A bl.length c] 80)) w.heap.size 80 #[.int .i64 kd, .int .i64 nu, .slice A bl.length c] ∧ Below w.heap.size w (w.alloc (.cells #[.int .i64 kd, .int .i64 nu, .slice A bl.length c] 80)) := ⟨RowAt.new _ _ _, (Below.refl _ _).alloc (Nat.le_refl _) _⟩
  have hlt := hr.lt
  have hl4 := hk.len
  have hnx := hk.next
  have hsep : ∀ b off, A = some ⟨b, off, none⟩ → 0 < bl.length → b ≠ g ∧ some b ≠ (Value.slice Al l.length cl).ownBlock := by
    intro b off hA hp
    obtain ⟨b', off', hA', hb', _⟩ := hs.one (by simpa [strV] using hp)
    rw [hA] at hA'
    injection hA' with hA'
    injection hA' with e1 _ _
    refine ⟨by omega, fun e => ?_⟩
    have := (ho.lt b e.symm).1
    omega
  have HR1 := Lib.hid (hr.below hb1 hlt)
  have HO1 := Lib.hid (own_all ho hb1)
  have HT1 := Lib.hid ((Two.refl w g (Value.slice Al l.length cl).ownBlock).below hb1)
  have hs1 := (hs.below (hb1.mono hb0)).mono (Nat.le_trans hb0 hb1.size)
  have HS1 := Lib.hid hs1
  have hsz1 := hb1.size
  have HK := Lib.hid hk
  have HSEP := Lib.hid hsep
  have q := hrb.cell
  have HRB := Lib.hid hrb
  have HWT1 : Hid (WtAt (w.alloc (.cells #[.int .i64 kd, .int .i64 nu, .slice A bl.length c] 80)) base0 g st ba l) := Lib.hid ⟨Al, cl, HR1.out, HO1.out⟩
  have HO0 := Lib.hid ho
  clear hr ho hk hs hsep hs1 hrb
  by_cases h0 : kd = 0
  · subst h0
    cases hb : bl.all blkOk with
    | false =>
      have HE : Hid (acR st ba l 0 nu bl = ⟨ba, l, [], [], 1⟩) := Lib.hid (by rw [acR_0, (apX_bad st ba l hb).1, (apX_bad st ba l hb).2.1, (apX_bad st ba l hb).2.2])
      have C := Lib.hid (append_arg base0 g st ba l A c bl _ HS1.out (by omega) hb)
      rw [HE.out]
      clear hb hb1
      go_enter Try.func45, Try.ntmps45
      go_wp2_with fail
      refine C.out.mono ?_
      rintro e w2 ⟨rfl, rfl⟩
      go_wp2_with fail
      go_ret3
      exact callres_none (R := ⟨ba, l, [], [], 1⟩) rfl rfl rfl rfl HWT1.out HT1.out
    | true =>
      have C := Lib.hid (append_all base0 g st ba l A Al c cl bl _ HS1.out (by omega) hb HR1.out HO1.out (by omega) HK.out.st0 hnx.1 (by omega) (Nat.le_trans hb0 hsz1) HSEP.out)
      have HB := Lib.hid hb
      have HB1 := Lib.hid hb1
      clear hb hb1
      go_enter Try.func45, Try.ntmps45
      go_wp2_with fail
      refine C.out.mono ?_
      rintro e w2 hres
      rcases hres with ⟨hn, rfl, hb2⟩ | ⟨out, A2, c2, hso, rfl, hoo, hwt, htw⟩
      · have HE : Hid (acR st ba l 0 nu bl = ⟨ba, l, [], [], 12⟩) := Lib.hid (by rw [acR_0, (apX_full HB.out hn).1, (apX_full HB.out hn).2.1, (apX_full HB.out hn).2.2])
        have HB2 := Lib.hid hb2
        clear hn hb2
        go_wp2_with fail
        go_ret3
        rw [HE.out]
        exact callres_none (R := ⟨ba, l, [], [], 12⟩) rfl rfl rfl rfl (HWT1.out.below' HB2.out) (HT1.out.below HB2.out)
      · have HE : Hid (acR st ba l 0 nu bl = ⟨ba, moreP l out bl out.length, out, [], 0⟩) := Lib.hid (by rw [acR_0, (apX_ok HB.out hso).1, (apX_ok HB.out hso).2.1, (apX_ok HB.out hso).2.2])
        have HOO := Lib.hid hoo
        have HWT := Lib.hid hwt
        have HTW := Lib.hid htw
        clear hso hoo hwt htw
        go_wp2_with fail
        go_ret3
        exact callres_more HE.out HOO.out hsz1 HWT.out (HT1.out.trans' HTW.out)
  · have h0B : (kd == 0) = false := by rw [beq_eq_false_iff_ne]; exact h0
    by_cases h1 : kd = 1
    · subst h1
      by_cases hr : nu < 0 ∨ 1024 < nu
      · have HE : Hid (acR st ba l 1 nu bl = ⟨ba, l, [], [], 2⟩) := Lib.hid (by rw [acR_1, (rsX_bad st ba l hr).1, (rsX_bad st ba l hr).2.1, (rsX_bad st ba l hr).2.2])
        have C := Lib.hid (reserve_range g nu (w.alloc (.cells #[.int .i64 1, .int .i64 nu, .slice A bl.length c] 80)) hr)
        rw [HE.out]
        clear hr hb1 h0 h0B
        go_enter Try.func45, Try.ntmps45
        go_wp2_with fail
        refine C.out.mono ?_
        rintro e w2 ⟨rfl, rfl⟩
        go_wp2_with fail
        go_ret3
        exact callres_none (R := ⟨ba, l, [], [], 2⟩) rfl rfl rfl rfl HWT1.out HT1.out
      · obtain ⟨n, rfl⟩ : ∃ n : Nat, nu = (n : Int) := ⟨nu.toNat, by omega⟩
        have hn : n ≤ 1024 := by omega
        have C := Lib.hid (reserve_any base0 g st ba l Al cl n _ HR1.out HO1.out (by omega) HK.out.st0 hnx.1 (by omega) hn (Nat.le_trans hb0 hsz1))
        have HB1 := Lib.hid hb1
        clear hr hb1 h0 h0B
        go_enter Try.func45, Try.ntmps45
        go_wp2_with fail
        refine C.out.mono ?_
        rintro e w2 hres
        rcases hres with ⟨hno, rfl, hb2⟩ | ⟨out, A2, c2, hso, rfl, hoo, hwt, htw⟩
        · have HE : Hid (acR st ba l 1 (n : Int) bl = ⟨ba, l, [], [], 12⟩) := Lib.hid (by rw [acR_1, (rsX_full hn hno).1, (rsX_full hn hno).2.1, (rsX_full hn hno).2.2])
          have HB2 := Lib.hid hb2
          clear hno hb2
          go_wp2_with fail
          go_ret3
          rw [HE.out]
          exact callres_none (R := ⟨ba, l, [], [], 12⟩) rfl rfl rfl rfl (HWT1.out.below' HB2.out) (HT1.out.below HB2.out)
        · have HE : Hid (acR st ba l 1 (n : Int) bl = ⟨ba, moreP l out [] out.length, out, [], 0⟩) := Lib.hid (by rw [acR_1, (rsX_ok hn hso).1, (rsX_ok hn hso).2.1, (rsX_ok hn hso).2.2])
          have HOO := Lib.hid hoo
          have HWT := Lib.hid hwt
          have HTW := Lib.hid htw
          clear hso hoo hwt htw
          go_wp2_with fail
          go_ret3
          exact callres_more HE.out HOO.out hsz1 HWT.out (HT1.out.trans' HTW.out)
    · have h1B : (kd == 1) = false := by rw [beq_eq_false_iff_ne]; exact h1
      have J := Lib.hid (join_any A c bl)
      obtain ⟨b, hbe⟩ : ∃ b, joinB bl = b := ⟨_, rfl⟩
      have HBE := Lib.hid hbe
      rw [hbe] at J hj
      have hlB := Lib.hid hbl
      have HNR : Hid (w.heap.size ≠ g ∧ some w.heap.size ≠ (Value.slice Al l.length cl).ownBlock) := Lib.hid ⟨by omega, fun e => by have := (HO0.out.lt _ e.symm).2; omega⟩
      by_cases h2 : kd = 2
      · subst h2
        have HE : Hid (acR st ba l 2 nu bl = ⟨ba, fiL l nu b, [], [], fillE l nu b⟩) := Lib.hid (by rw [acR_2, HBE.out])
        rw [HE.out]
        obtain ⟨E, hE⟩ : ∃ E, fillE l nu b = E := ⟨_, rfl⟩
        have HFE := Lib.hid hE
        rw [hE]
        clear hE hbe h0 h1 h0B h1B
        go_enter Try.func45, Try.ntmps45
        go_upto_region 9 with fail
        generalize w.alloc (.cells #[.int .i64 2, .int .i64 nu, .slice A bl.length c] 80) = w1 at *
        have J1 := Lib.hid (fun w' (hb : Below w1.heap.size w1 w') => J.out w' ((HS1.out.below hb).mono hb.size) hc (by omega) (by omega))
        have F := Lib.hid (fun w' (hb : Below w1.heap.size w1 w') => fill_any base0 g st ba l Al cl nu b w' (HR1.out.below hb HR1.out.lt) (own_all HO1.out hb) (by omega))
        have HFS : Hid (∀ w', Below w1.heap.size w1 w' → WtAt w' base0 g st ba l) := Lib.hid (fun w' hb => HWT1.out.below' hb)
        clear q
        go_cut [4, 5, 6] from 39 to 45 (fun x y z wx => x = .slice none 0 0 ∧ y = .slice none 0 0 ∧ z = .int .i64 E ∧ WtAt wx base0 g st ba (fiL l nu b) ∧ Two w wx g (Value.slice Al l.length cl).ownBlock)
        case first =>
          refine wp_region_held_drew (S := (fun w' => RowAt w' w.heap.size 80 #[.int .i64 2, .int .i64 nu, .slice A bl.length c])) (by kernel_rfl) (HRB.out) (fun hHeld => ?_)
          refine wpAnyH_take (i := 0) (oi := ?o751) (v := ?v751) ?hi751 (by kernel_rfl) (by kernel_rfl) (by kernel_rfl) ?hq751 ?hy751 (by assumption) ?hr751
          case hi751 => (simp only [List.getElem?_toArray, List.getElem?_cons_zero]; rfl)
          case hy751 => ((refine .inl ⟨by rfl, ?_⟩); intro w hS; go_simp; (try with_reducible rfl))
          case hq751 => exact fun _ _ _ h => h
          (simp only [Act.put, List.setIfInBounds_toArray, List.set_cons_zero, List.set_cons_succ])
          refine wpAnyH_take (i := 1) (oi := ?o752) (v := ?v752) ?hi752 (by kernel_rfl) (by kernel_rfl) (by kernel_rfl) ?hq752 ?hy752 (by assumption) ?hr752
          case hi752 => (simp only [List.getElem?_toArray, List.getElem?_cons_succ, List.getElem?_cons_zero]; rfl)
          case hy752 => ((refine .inl ⟨by rfl, ?_⟩); intro w hS; go_simp; (try with_reducible rfl))
          case hq752 => exact fun _ _ _ h => h
          (simp only [Act.put, List.setIfInBounds_toArray, List.set_cons_zero, List.set_cons_succ])
          refine wpAnyH_take (i := 2) (oi := ?o753) (v := ?v753) ?hi753 (by kernel_rfl) (by kernel_rfl) (by kernel_rfl) ?hq753 ?hy753 (by assumption) ?hr753
          case hi753 => (simp only [List.getElem?_toArray, List.getElem?_cons_succ, List.getElem?_cons_zero]; rfl)
          case hy753 => ((refine .inl ⟨by rfl, ?_⟩); intro w hS; have q := hS.cell; go_simp; (try with_reducible rfl))
          case hq753 => exact fun _ _ _ h => h
          (simp only [Act.put, List.setIfInBounds_toArray, List.set_cons_zero, List.set_cons_succ])
          refine wpAnyH_take (i := 3) (oi := ?o754) (v := ?v754) ?hi754 (by kernel_rfl) (by kernel_rfl) (by kernel_rfl) ?hq754 ?hy754 (by assumption) ?hr754
          case hi754 => (simp only [List.getElem?_toArray, List.getElem?_cons_succ, List.getElem?_cons_zero]; rfl)
          case hy754 => ((refine .inl ⟨by rfl, ?_⟩); intro w hS; go_simp; (try with_reducible rfl))
          case hq754 => exact fun _ _ _ h => h
          (simp only [Act.put, List.setIfInBounds_toArray, List.set_cons_zero, List.set_cons_succ])
          refine wpAnyH_take (i := 4) (oi := ?o755) (v := ?v755) ?hi755 (by kernel_rfl) (by kernel_rfl) (by kernel_rfl) ?hq755 ?hy755 (by assumption) ?hr755
          case hi755 => (simp only [List.getElem?_toArray, List.getElem?_cons_succ, List.getElem?_cons_zero]; rfl)
          case hy755 => ((refine .inl ⟨by rfl, ?_⟩); intro w hS; have q := hS.cell; go_simp; (try with_reducible rfl))
          case hq755 => exact fun _ _ _ h => h
          (simp only [Act.put, List.setIfInBounds_toArray, List.set_cons_zero, List.set_cons_succ])
          refine wpAnyH_ready (rs := [5]) (by kernel_rfl) (by simp) ?_
          refine AllReadyH.cons rfl (fun K hK => ?_) AllReadyH.nil
          go_simp
          go_wp2_with (((with_reducible refine (J1.out _ (Below.refl _ _).drew).mono ?_); rintro e w3 ⟨rfl, hb3⟩))
          refine hK.out _ _ (hHeld.below hb3 hHeld.lt) (fun hHeld1 => ?_)
          clear hK K
          (try simp only [Act.put, List.setIfInBounds_toArray, List.set_cons_zero, List.set_cons_succ])
          have HB3 := Lib.hid (((Below.refl w1.heap.size w1).drew).trans hb3)
          clear hb3
          clear hHeld; have hHeld := hHeld1; clear hHeld1
          refine wpAnyH_ready (rs := [6]) (by kernel_rfl) (by simp) ?_
          refine AllReadyH.cons rfl (fun K hK => ?_) AllReadyH.nil
          go_simp
          go_wp2_with (((with_reducible refine (F.out _ HB3.out).mono ?_); rintro e w4 hres; obtain ⟨rfl, hwt4, htw4⟩ := fill_sum hres (HFS.out _ HB3.out) HFE.out))
          refine hK.out _ _ (hHeld.two htw4 HNR.out.1 HNR.out.2) (fun hHeld1 => ?_)
          clear hK K
          (try simp only [Act.put, List.setIfInBounds_toArray, List.set_cons_zero, List.set_cons_succ])
          have HW4 := Lib.hid hwt4
          have HT4 := Lib.hid htw4
          clear hwt4 htw4
          clear hHeld; have hHeld := hHeld1; clear hHeld1
          refine wpAnyH_take (i := 7) (oi := ?o756) (v := ?v756) ?hi756 (by kernel_rfl) (by kernel_rfl) (by kernel_rfl) ?hq756 ?hy756 (by assumption) ?hr756
          case hi756 => (simp only [List.getElem?_toArray, List.getElem?_cons_succ, List.getElem?_cons_zero]; rfl)
          case hy756 => ((refine .inl ⟨by rfl, ?_⟩); intro w hS; go_simp; (try with_reducible rfl))
          case hq756 => exact fun _ _ _ h => h
          (simp only [Act.put, List.setIfInBounds_toArray, List.set_cons_zero, List.set_cons_succ])
          refine wpAnyH_take (i := 8) (oi := ?o757) (v := ?v757) ?hi757 (by kernel_rfl) (by kernel_rfl) (by kernel_rfl) ?hq757 ?hy757 (by assumption) ?hr757
          case hi757 => (simp only [List.getElem?_toArray, List.getElem?_cons_succ, List.getElem?_cons_zero]; rfl)
          case hy757 => ((refine .inl ⟨by rfl, ?_⟩); intro w hS; go_simp; (try with_reducible rfl))
          case hq757 => exact fun _ _ _ h => h
          (simp only [Act.put, List.setIfInBounds_toArray, List.set_cons_zero, List.set_cons_succ])
          refine wpAnyH_take (i := 9) (oi := ?o758) (v := ?v758) ?hi758 (by kernel_rfl) (by kernel_rfl) (by kernel_rfl) ?hq758 ?hy758 (by assumption) ?hr758
          case hi758 => (simp only [List.getElem?_toArray, List.getElem?_cons_succ, List.getElem?_cons_zero]; rfl)
          case hy758 => ((refine .inl ⟨by rfl, ?_⟩); intro w hS; go_simp; (try with_reducible rfl))
          case hq758 => exact fun _ _ _ h => h
          (simp only [Act.put, List.setIfInBounds_toArray, List.set_cons_zero, List.set_cons_succ])
          refine wpAnyH_done (by kernel_rfl) ?_ _
          go_wp2_with fail
          go_meet
          exact ⟨rfl, rfl, rfl, HW4.out, (HT1.out.below HB3.out).trans' HT4.out⟩
        case rest =>
          obtain ⟨rfl, rfl, rfl, hwt, htw⟩ := hcut
          have HWT := Lib.hid hwt
          have HTW := Lib.hid htw
          clear hwt htw
          go_wp2_with fail
          go_ret3
          exact callres_none (R := ⟨ba, fiL l nu b, [], [], E⟩) rfl rfl rfl rfl HWT.out HTW.out
      · have h2B : (kd == 2) = false := by rw [beq_eq_false_iff_ne]; exact h2
        have HN0 := Lib.hid h0
        have HN1 := Lib.hid h1
        have HN2 := Lib.hid h2
        clear hbe h0 h1 h2
        go_enter Try.func45, Try.ntmps45
        go_wp2_with fail
        generalize w.alloc (.cells #[.int .i64 kd, .int .i64 nu, .slice A bl.length c] 80) = w1 at *
        refine (J.out w1 HS1.out hc (by omega) (by omega)).mono ?_
        rintro e w2 ⟨rfl, hb2⟩
        have F2 := Lib.hid (flush_any base0 g st ba l b w2 ⟨Al, cl, HR1.out.below hb2 HR1.out.lt, own_all HO1.out hb2⟩ HK.out)
        have HB2 := Lib.hid hb2
        clear hb2 J q
        go_wp2_with fail
        refine F2.out.mono ?_
        rintro e w3 hres
        rcases hres with ⟨hno, rfl, hb3⟩ | ⟨hf0, hf1, _, ho0, gb, m, A2, c2, hm0, hm8, rfl, hwr, hrw, htw⟩
        · have HE : Hid (acR st ba l kd nu bl = ⟨ba, l, [], [], flE st ba l b⟩) := Lib.hid (by rw [← HBE.out]; exact acR_no HN0.out HN1.out HN2.out (by rw [HBE.out]; exact hno))
          have HB3 := Lib.hid hb3
          clear hno hb3 F2
          generalize flE st ba l b = E at *
          go_wp2_with fail
          go_ret3
          rw [HE.out]
          exact callres_none (R := ⟨ba, l, [], [], E⟩) rfl rfl rfl rfl (HWT1.out.below' (HB2.out.trans (HB3.out.mono HB2.out.size))) (HT1.out.below (HB2.out.trans (HB3.out.mono HB2.out.size)))
        · have HE : Hid (acR st ba l kd nu bl = ⟨ctlL st ba l + 1, [], [], (List.range m).map (fcore st ba l b m), 0⟩) := Lib.hid (by rw [← HBE.out]; exact acR_go HN0.out HN1.out HN2.out (by rw [HBE.out]; exact hf0) (by rw [HBE.out]; exact hf1) hm8)
          have HC := Lib.hid (flWs_core (ctl := b) HK.out ho0 gb hm8)
          have HWR := Lib.hid hwr.wsAt
          have HRW := Lib.hid hrw
          have HTW := Lib.hid htw
          have HLN : Hid ((flWs gb ba (flAll st ba l b) m m).length = m) := Lib.hid (by simp [flWs])
          clear hf0 hf1 ho0 hm0 hm8 hwr hrw htw F2
          go_wp2_with fail
          go_ret3
          rw [HE.out]
          exact ⟨none, 0, _, A2, c2, by rw [HLN.out]; rfl, HC.out, World.ownsRow_nil _ _ _ _, HWR.out, ⟨none, 0, HRW.out, World.ownsRow_nil _ _ _ _⟩, (HT1.out.below HB2.out).trans' HTW.out.weak⟩
end Go.Proofs.Ytdmdfpdigoijoaa

/-
  Chapter 52: the state of the law of the calls between the steps of a round.
-/
namespace Go.Proofs.Ytdmdfpdigoijoaa
open Go.RowKit
set_option linter.unusedVariables false

theorem AcAt.mono {w : World} {B C : Nat} {A : Option Addr} {acs : List Ac} (h : AcAt w B A acs) (hc : B ≤ C) : AcAt w C A acs := ⟨h.1.mono hc, fun x hx => ⟨(h.2 x hx).1.mono hc, (h.2 x hx).2⟩⟩
/-- The program's writer in block g has ba', l'; the reference's one in block gr has ba, l. -/
structure CS (w : World) (g gr : Nat) (st ba ba' : Int) (l l' : List Pend) (Al : Option Addr) (cl : Nat) (wr : World) : Prop where
  bel : Below w.heap.size w wr
  gb : w.heap.size ≤ g
  rb : w.heap.size ≤ gr
  wt : WtAt wr w.heap.size g st ba' l'
  rr : RowAt wr gr 76 #[.int .i64 st, .int .i64 ba, .slice Al l.length cl]
  ro : wr.ownsRow w.heap.size 121 2 (.slice Al l.length cl) l.length (flat encP l)
section
variable {w wr w' : World} {g gr : Nat} {st ba ba' : Int} {l l' : List Pend} {Al : Option Addr} {cl : Nat}
theorem CS.below (h : CS w g gr st ba ba' l l' Al cl wr) (hb : Below wr.heap.size wr w') : CS w g gr st ba ba' l l' Al cl w' :=
  ⟨h.bel.trans (hb.mono h.bel.size), h.gb, h.rb, h.wt.below' hb, h.rr.below hb h.rr.lt, own_all h.ro hb⟩
theorem CS.ne (h : CS w g gr st ba ba' l l' Al cl wr) : gr ≠ g := by
  obtain ⟨A, c, hr, _⟩ := h.wt
  intro e
  subst e
  have := h.rr.symm.trans hr
  injection this with this
  injection this with _ h2
  exact absurd h2 (by decide)
theorem CS.pn (h : CS w g gr st ba ba' l l' Al cl wr) : PnAt wr wr.heap.size Al l := SlAt.of_own' h.ro (Nat.le_refl _)
theorem CS.two {A : Option Addr} {c : Nat} (h : CS w g gr st ba ba l l Al cl wr) (hr : RowAt wr g 109 #[.int .i64 st, .int .i64 ba, .slice A l.length c]) (ho : wr.ownsRow w.heap.size 114 2 (.slice A l.length c) l.length (flat encP l)) (ht : Two wr w' g (Value.slice A l.length c).ownBlock) (hwt : WtAt w' w.heap.size g st ba' l') : CS w g gr st ba ba' l l' Al cl w' :=
  ⟨h.bel.trans (ht.toBelow h.bel.size h.gb (fun k hk => (ho.lt k hk).1)), h.gb, h.rb, hwt, h.rr.two ht h.ne (fun e => own_row_ne ho h.rr (by decide) gr e.symm rfl), own_two h.ro ht hr ho (by decide) (by decide)⟩
/-- A store into a block whose cells are neither a Boolean nor a string. -/
theorem WsAt.far {w : World} {B k j : Nat} {A : Option Addr} {ws : List Wr} {t : TypeId} {cs : Array Value} {u : Value} (h : WsAt w B A ws) (hr : RowAt w k t cs) (hcs : ∀ (i : Nat) (v : Value), cs[i]? = some v → (∀ b, v ≠ .bool b) ∧ ∀ s, v ≠ .string s) : WsAt (w.setCell ⟨k, j, none⟩ u) B A ws := by
  refine ⟨?_, fun x hx => ?_⟩
  · rcases Nat.eq_zero_or_pos ws.length with h0 | h0
    · rw [List.eq_nil_of_length_eq_zero h0]
      exact SlAt.nil _ _ _
    · obtain ⟨b, off, hA, hb⟩ := h.one h0
      obtain ⟨x, hx⟩ : ∃ x, ws[0]? = some x := ⟨ws[0], List.getElem?_eq_getElem _⟩
      have hc := (h.cells hA hx).2.2.1
      have hne : b ≠ k := by
        intro e
        subst e
        rw [hr.cell] at hc
        exact (hcs _ _ hc).1 _ rfl
      intro i v hv
      obtain ⟨b', off', hA', hb', hc'⟩ := h.1 i v hv
      have : b' = b := by rw [hA] at hA'; injection hA' with e; injection e with e _ _; exact e.symm
      subst this
      exact ⟨b', off', hA', hb', (World.cell?_of_block (Below.heap_setCell w ⟨k, j, none⟩ u b' hne)).trans hc'⟩
  · have hs := h.2 x hx
    rcases Nat.eq_zero_or_pos x.bl.length with h0 | h0
    · rw [List.eq_nil_of_length_eq_zero h0]
      exact SlAt.nil _ _ _
    · obtain ⟨b, off, hA, hb⟩ := hs.strAddr h0
      obtain ⟨s, hs0⟩ : ∃ s, x.bl[0]? = some s := ⟨x.bl[0], List.getElem?_eq_getElem _⟩
      have hc := hs.str hA hs0
      have hne : b ≠ k := by
        intro e
        subst e
        rw [hr.cell] at hc
        exact (hcs _ _ hc).2 _ rfl
      intro i v hv
      obtain ⟨b', off', hA', hb', hc'⟩ := hs i v hv
      have : b' = b := by rw [hA] at hA'; injection hA' with e; injection e with e _ _; exact e.symm
      subst this
      exact ⟨b', off', hA', hb', (World.cell?_of_block (Below.heap_setCell w ⟨k, j, none⟩ u b' hne)).trans hc'⟩
theorem rw_cells (st ba : Int) (A : Option Addr) (n c : Nat) : ∀ (i : Nat) (v : Value), (#[.int .i64 st, .int .i64 ba, .slice A n c] : Array Value)[i]? = some v → (∀ b, v ≠ .bool b) ∧ ∀ s, v ≠ .string s := by
  intro i v h
  match i with
  | 0 => injection h with h; subst h; exact ⟨fun b => by simp, fun s => by simp⟩
  | 1 => injection h with h; subst h; exact ⟨fun b => by simp, fun s => by simp⟩
  | 2 => injection h with h; subst h; exact ⟨fun b => by simp, fun s => by simp⟩
  | n + 3 => simp at h
/-- What the reference's call leaves. -/
structure RP (B : Nat) (R : AcR) (w' : World) (A2 : Option Addr) (c2 : Nat) (Ay : Option Addr) (cy : Nat) (ws : List Wr) (Aw : Option Addr) : Prop where
  own : w'.ownsRow B 121 2 (.slice A2 R.l.length c2) R.l.length (flat encP R.l)
  y : w'.ownsRow B 3 1 (.slice Ay R.x.length cy) R.x.length (intV R.x)
  cs : ws.map wcore = R.cs
  ws : WsAt w' w'.heap.size Aw ws
/-- What holds behind the reference's step. -/
def AfterRef (w : World) (g gr : Nat) (st : Int) (R : AcR) (Ax : Option Addr) (cx : Nat) (ws : List Wr) (Aw : Option Addr) (y v E : Value) (wx : World) : Prop :=
  E = .int .i64 R.E ∧ ∃ (A2 : Option Addr) (c2 : Nat) (Ay : Option Addr) (cy : Nat) (ws' : List Wr) (Aw' : Option Addr) (cw' : Nat), y = .slice Ay R.x.length cy ∧ v = .slice Aw' ws'.length cw' ∧ CS w g gr st R.ba R.ba R.l R.l A2 c2 wx ∧ RP w.heap.size R wx A2 c2 Ay cy ws' Aw' ∧ wx.ownsRow w.heap.size 3 1 (.slice Ax R.x.length cx) R.x.length (intV R.x) ∧ WsAt wx wx.heap.size Aw ws
theorem after_ref {R : AcR} {Ax Aw A2 Ay Aw' : Option Addr} {cx c2 cy : Nat} {ws ws' : List Wr} (cw' : Nat) (hc : CS w g gr st ba R.ba l R.l Al cl wr) (hx : wr.ownsRow w.heap.size 3 1 (.slice Ax R.x.length cx) R.x.length (intV R.x)) (hw : WsAt wr wr.heap.size Aw ws) (hp : RP w.heap.size R wr A2 c2 Ay cy ws' Aw') :
    AfterRef w g gr st R Ax cx ws Aw (.slice Ay R.x.length cy) (.slice Aw' ws'.length cw') (.int .i64 R.E) (((wr.setCell ⟨gr, 0, none⟩ (.int .i64 st)).setCell ⟨gr, 1, none⟩ (.int .i64 R.ba)).setCell ⟨gr, 2, none⟩ (.slice A2 R.l.length c2)) := by
  have r0 := hc.rr
  have r1 := r0.set_ 0 (.int .i64 st)
  have r2 := r1.set_ 1 (.int .i64 R.ba)
  have r3 := r2.set_ 2 (.slice A2 R.l.length c2)
  have c0 := rw_cells st ba Al l.length cl
  have c2' := rw_cells st R.ba Al l.length cl
  have hsz : (((wr.setCell ⟨gr, 0, none⟩ (.int .i64 st)).setCell ⟨gr, 1, none⟩ (.int .i64 R.ba)).setCell ⟨gr, 2, none⟩ (.slice A2 R.l.length c2)).heap.size = wr.heap.size := by simp
  obtain ⟨A, c, hr, ho⟩ := hc.wt
  have hne := hc.ne
  refine ⟨rfl, A2, c2, Ay, cy, ws', Aw', cw', rfl, rfl, ⟨below_set3 hc.bel hc.rb _ _ _, hc.gb, hc.rb, ⟨A, c, ?_, ?_⟩, r3, ?_⟩, ⟨?_, ?_, hp.cs, ?_⟩, ?_, ?_⟩
  · exact ((hr.far (p := ⟨gr, 0, none⟩) (Ne.symm hne) _).far (p := ⟨gr, 1, none⟩) (Ne.symm hne) _).far (p := ⟨gr, 2, none⟩) (Ne.symm hne) _
  · exact own_set_ty (own_set_ty (own_set_ty ho r0 (by decide)) r1 (by decide)) r2 (by decide)
  · exact own_set_ty (own_set_ty (own_set_ty hp.own r0 (by decide)) r1 (by decide)) r2 (by decide)
  · exact own_set_ty (own_set_ty (own_set_ty hp.own r0 (by decide)) r1 (by decide)) r2 (by decide)
  · exact own_set_ty (own_set_ty (own_set_ty hp.y r0 (by decide)) r1 (by decide)) r2 (by decide)
  · rw [hsz]; exact ((hp.ws.far r0 c0).far r1 c0).far r2 c2'
  · exact own_set_ty (own_set_ty (own_set_ty hx r0 (by decide)) r1 (by decide)) r2 (by decide)
  · rw [hsz]; exact ((hw.far r0 c0).far r1 c0).far r2 c2'
theorem keep_own {w1 w2 : World} {B : Nat} {A : Option Addr} {c : Nat} (h : KeepOr w1 w2 Al A cl c l l') (ho : w1.ownsRow B 121 2 (.slice Al l.length cl) l.length (flat encP l)) (hb : Below w1.heap.size w1 w2) (hB : B ≤ w1.heap.size) : w2.ownsRow B 121 2 (.slice A l'.length c) l'.length (flat encP l') := by
  rcases h with ⟨rfl, rfl, rfl⟩ | h
  · exact own_all ho hb
  · exact own_le h hB
theorem rp_rw {w1 w2 : World} {B : Nat} {A Ao : Option Addr} {c co : Nat} {out : List Int} {E : Int} (hk : KeepOr w1 w2 Al A cl c l l') (hy : w2.ownsRow w1.heap.size 3 1 (.slice Ao out.length co) out.length (intV out)) (ho : w1.ownsRow B 121 2 (.slice Al l.length cl) l.length (flat encP l)) (hb : Below w1.heap.size w1 w2) (hB : B ≤ w1.heap.size) : RP B ⟨ba, l', out, [], E⟩ w2 A c Ao co [] none :=
  ⟨keep_own hk ho hb hB, own_le hy hB, rfl, WsAt.nil _ _ _⟩
/-- Flush of the reference in the words of acR. -/
theorem rflush_sum {R : AcR} {w1 w2 : World} {e : Ending} {B : Nat} {kd nu : Int} {bl : List ByteArray} {b : ByteArray} (hR : acR st ba l kd nu bl = R) (hj : joinB bl = b) (h0 : kd ≠ 0) (h1 : kd ≠ 1) (h2 : kd ≠ 2) (h : RFlush st ba Al cl l b w1 e w2) (ho : w1.ownsRow B 121 2 (.slice Al l.length cl) l.length (flat encP l)) :
    Below w1.heap.size w1 w2 ∧ ∃ A2 c2 ws Aw cw, e = .returned (.tuple #[rwV st R.ba A2 R.l.length c2, .slice Aw ws.length cw, .int .i64 R.E]) ∧ R.x = [] ∧ RP B R w2 A2 c2 none 0 ws Aw := by
  subst hj
  obtain ⟨hb, h⟩ := h
  refine ⟨hb, ?_⟩
  rcases h with ⟨hn, rfl⟩ | ⟨hf, hf2, m, ws, A, c, hm, hl, hc, rfl, hw⟩
  · have hE := acR_no (num := nu) h0 h1 h2 hn
    rw [hR] at hE
    subst hE
    exact ⟨Al, cl, [], none, 0, rfl, rfl, own_all ho hb, World.ownsRow_nil _ _ _ _, rfl, WsAt.nil _ _ _⟩
  · have hE := acR_go (num := nu) h0 h1 h2 hf hf2 hm
    rw [hR] at hE
    subst hE
    exact ⟨none, 0, ws, A, c, by rw [hl]; rfl, rfl, World.ownsRow_nil _ _ _ _, World.ownsRow_nil _ _ _ _, hc, hw⟩
/-- How much there is. -/
theorem acR_x (st ba : Int) (l : List Pend) (kd nu : Int) (bl : List ByteArray) : (acR st ba l kd nu bl).x.length ≤ 1024 + bl.length := by
  unfold acR
  split
  · dsimp only
    unfold apO
    split
    · cases h : asgL st ba l bl.length with
      | none => simp
      | some out => have := (asgL_spec h).1; simp [this]
    · simp
  · split
    · dsimp only
      unfold rsO
      split
      · simp
      · cases h : asgL st ba l nu.toNat with
        | none => simp
        | some out => have := (asgL_spec h).1; simp [this]; omega
    · split
      · simp
      · split <;> simp
theorem acR_cs (hk : Wok st ba l) {kd nu : Int} {bl : List ByteArray} : (acR st ba l kd nu bl).cs.length ≤ 1000 ∧ ∀ y ∈ (acR st ba l kd nu bl).cs, y.2.1.length ≤ 8 := by
  have hct := hk.ctl
  have h0 := hk.st0
  have h1 := hk.stba
  unfold acR
  split
  · exact ⟨by simp, fun y hy => (List.not_mem_nil hy).elim⟩
  · split
    · exact ⟨by simp, fun y hy => (List.not_mem_nil hy).elim⟩
    · split
      · exact ⟨by simp, fun y hy => (List.not_mem_nil hy).elim⟩
      · split
        · exact ⟨by simp, fun y hy => (List.not_mem_nil hy).elim⟩
        · refine ⟨by simp; omega, fun y hy => ?_⟩
          obtain ⟨j, _, rfl⟩ := List.mem_map.1 hy
          show (rowF _ _ _ _ _ 8).length ≤ 8
          rw [rowF_length]
          omega
theorem ws_few {ws : List Wr} {cs : List (Int × List ByteArray × Bool × Bool)} (h : ws.map wcore = cs) (hc : cs.length ≤ 1000 ∧ ∀ y ∈ cs, y.2.1.length ≤ 8) : ws.length ≤ 1000 ∧ ∀ x ∈ ws, x.bl.length ≤ 8 := by
  subst h
  exact ⟨by simpa using hc.1, fun x hx => hc.2 (wcore x) (List.mem_map_of_mem hx)⟩
end
end Go.Proofs.Ytdmdfpdigoijoaa
