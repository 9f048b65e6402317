/-
  Chapter 52: the iterator over the steps of writes.
-/
import Derived.Test.YtdmdfpdigoijoaaPwM
import Derived.Test.YtdmdfpdigoijoaaBridge
import Derived.Laws.Strings
import Derived.RangeFuncWrites
import Derived.Shelf.Abstract
import Derived.Shelf.RegionOpen
import Derived.LoopNIn
import Derived.LoopIn
namespace Go.Proofs.Ytdmdfpdigoijoaa
open Go.RowKit Go.Shelf
set_option linter.unusedVariables false
attribute [local go_sem] Oper.semAt_some

abbrev StpG (G : Stp → Prop) := { s : Stp // G s }
def encY {G : Stp → Prop} (x : StpG G) : Array Value := #[.agg #[.int .i64 x.1.pos, .string x.1.b, .bool x.1.cl]]
/-- What a round that goes on keeps: what was there, and the cells of the iterator. -/
def KpT (n0 : Nat) (W W' : World) : Prop := Below n0 W W' ∧ ∀ g t cs, (t = 24 ∨ t = 49) → RowAt W g t cs → RowAt W' g t cs
theorem KpT.trans {n0 : Nat} {A B C : World} (h : KpT n0 A B) (k : KpT n0 B C) : KpT n0 A C := ⟨h.1.trans k.1, fun g t cs ht hr => k.2 g t cs ht (h.2 g t cs ht hr)⟩
theorem KpT.refl (n0 : Nat) (A : World) : KpT n0 A A := ⟨Below.refl _ _, fun _ _ _ _ h => h⟩
theorem KpT.putObj {n0 : Nat} {W : World} {l : Nat} {o o' : Obj} (hn : n0 ≤ l) (h : W.heap[l]? = some o) (hc : o.isCells = false) : KpT n0 W (W.putObj l o') := by
  refine ⟨(Below.refl n0 W).grown (grownBy_putObj' W l o') (by have := (Array.getElem?_eq_some_iff.1 h).1; omega) (fun k e => by cases e; omega), fun g t cs _ hr => ?_⟩
  refine ((grownBy_putObj' W l o').block g hr.lt fun e => ?_).trans hr
  injection e with e
  subst e
  unfold RowAt at hr
  rw [hr] at h
  injection h with h
  subst h
  cases hc
theorem take_next {α : Type} {l : List α} {k : Nat} {x : α} (h : l[k]? = some x) : l.take (k + 1) = l.take k ++ [x] := by
  rw [List.take_add_one, h]
  rfl

set_option maxRecDepth 100000 in
set_option maxHeartbeats 4000000 in
theorem steps1_in {G : Stp → Prop} (F : Fence) (n : Nat) (h78 : F.fn 78) (hro : F.round = none) (hn : 1 ≤ n) (l B n0 : Nat) (A : Option Addr) (c : Nat) (ws : List Wr) (ys : List (StpG G)) (hys : ys.map (·.1) = stepsL ws)
    (hwl : ws.length ≤ 1000000) (hbl : ∀ x ∈ ws, x.bl.length ≤ 1000000) (J Jx : List (StpG G) → World → Prop) (hJa : ∀ s W o, J s W → J s (W.alloc o))
    (hY : ∀ pre x W, J pre W → pre.length < ys.length → YieldAt F (n - 1) Try.prog l (encY x) W fun e W' =>
      (e = .returned (.bool true) ∧ J (pre ++ [x]) W' ∧ KpT n0 W W') ∨ (e = .returned (.bool false) ∧ Jx (pre ++ [x]) W'))
    (W : World) (hBn : RowAt W B 24 #[.slice A ws.length c]) (hW : WrAt W n0 A ws) (hn0 : n0 ≤ W.heap.size) (h0 : J [] W) :
    CallsIn F n Try.prog 78 #[.func (.yield l) #[] #[], .pointer (some ⟨B, 0, none⟩)] W fun e W' => (∃ v, e = .returned v) ∧
      ((∃ zs, zs = ys ∧ J zs W') ∨ (∃ pre, pre <+: ys ∧ Jx pre W')) := by
  refine callsIn_of_wp Try.func78 rfl h78 ?_ hro
  simp only [Try.ntmps78, List.size_toArray, List.length_cons, List.length_nil, Nat.reduceAdd, Nat.reduceSub, Array.replicate_succ, Array.replicate_zero, List.push_toArray, List.append_toArray, List.nil_append, List.cons_append]
  have HB := Lib.hid hbl
  have hyl : ys.length = nSt ws := by have := congrArg List.length hys; unfold nSt; simpa using this
  have HYL := Lib.hid hyl
  have HG : Hid (∀ i s, (stepsL ws)[i]? = some s → ∃ y : StpG G, ys[i]? = some y ∧ y.1 = s) := Lib.hid fun i s h => by
    rw [← hys, List.getElem?_map] at h
    obtain ⟨y, hy, e⟩ := Option.map_eq_some_iff.1 h
    exact ⟨y, hy, e⟩
  obtain ⟨m, hm⟩ : ∃ m, ws.length = m := ⟨_, rfl⟩
  have HM := Lib.hid hm
  rw [hm] at hwl hBn
  have q := hBn.cell
  clear hbl hys hyl hm hBn
  gi_wp2
  clear q
  gi_loopw [9] (fun p wr => ∃ k : Nat, k ≤ m ∧ p = .int .i64 k ∧ WrAt wr n0 A ws ∧ n0 ≤ wr.heap.size ∧ J (ys.take (nSt (ws.take k))) wr) (fun p _ => m - (intOf p).toNat)
  case atStart => exact ⟨0, by omega, rfl, hW, hn0, by simpa [nSt, stepsL] using h0⟩
  case round =>
    obtain ⟨k, hk, rfl, hWr, hnr, hJs⟩ := hrel
    by_cases hlt : k < m
    · obtain ⟨x, hx⟩ : ∃ x, ws[k]? = some x := ⟨ws[k]'(by rw [HM.out]; exact hlt), List.getElem?_eq_getElem _⟩
      obtain ⟨b, off, hA, hbk⟩ := hWr.one (by rw [HM.out]; omega)
      subst hA
      obtain ⟨p0, p1, p2, p3⟩ := hWr.cells rfl hx
      have hltI : (k : Int) < (m : Int) := by omega
      have h0k : (0 : Int) ≤ (k : Int) := by omega
      have hxl := HB.out x (List.mem_of_getElem? hx)
      have HX := Lib.hid hx
      clear hx
      obtain ⟨wo, rfl⟩ : ∃ wo : World, wo = wr := ⟨_, rfl⟩
      have hW1 : WrAt (wo.alloc (.cells #[.int .i64 x.pos, .slice x.A x.bl.length x.cap, .bool x.sync, .bool x.close] 49)) n0 (some ⟨b, off, none⟩) ws := hWr.below ((Below.refl _ _).alloc hnr _)
      have hJ1 := hJa _ _ (.cells #[.int .i64 x.pos, .slice x.A x.bl.length x.cap, .bool x.sync, .bool x.close] 49) hJs
      have hR1 : RowAt (wo.alloc (.cells #[.int .i64 x.pos, .slice x.A x.bl.length x.cap, .bool x.sync, .bool x.close] 49)) wo.heap.size 49 #[.int .i64 x.pos, .slice x.A x.bl.length x.cap, .bool x.sync, .bool x.close] := RowAt.new _ _ _
      have hn1 : n0 ≤ (wo.alloc (.cells #[.int .i64 x.pos, .slice x.A x.bl.length x.cap, .bool x.sync, .bool x.close] 49)).heap.size := by simp; omega
      have HJT := Lib.hid (nSt_take HX.out)
      have HNL := Lib.hid (nSt_le ws (k + 1))
      obtain ⟨T, hT⟩ : ∃ T, nSt (ws.take k) = T := ⟨_, rfl⟩
      have HAT : Hid (∀ i, i < x.bl.length → (stepsL ws)[T + i]? = some ⟨wrap64 (x.pos + (i : Int)), x.bl[i]?.getD blankS, false⟩) := Lib.hid fun i hi => by rw [← hT]; exact steps_at HX.out hi
      have HCL : Hid (x.close = true → (stepsL ws)[T + x.bl.length]? = some ⟨0, blankS, true⟩) := Lib.hid fun hc => by rw [← hT]; exact steps_close HX.out hc
      rw [hT] at hJ1
      have HT := Lib.hid hT
      clear hT hJs hWr
      have HBL : Hid (∀ w', WrAt w' n0 (some ⟨b, off, none⟩) ws → SlAt w' n0 x.A (strV x.bl)) := Lib.hid fun w' h => (h.2 x (List.mem_of_getElem? HX.out)).1
      obtain ⟨xp, xA, xc, xb, xs, xcl⟩ := x
      dsimp only at p0 p1 p2 p3 hxl HAT HCL HBL hW1 hJ1 hR1 hn1 HJT
      gi_wp2
      gi_loopw [16] (fun p wr => ∃ i : Nat, i ≤ xb.length ∧ p = .int .i64 i ∧ WrAt wr n0 (some ⟨b, off, none⟩) ws ∧ n0 ≤ wr.heap.size ∧ RowAt wr wo.heap.size 49 #[.int .i64 xp, .slice xA xb.length xc, .bool xs, .bool xcl] ∧ J (ys.take (T + i)) wr) (fun p _ => xb.length - (intOf p).toNat)
      case atStart => exact ⟨0, by omega, rfl, hW1, hn1, hR1, by simpa using hJ1⟩
      case round =>
        clear hW1 hn1 hR1 hJ1
        obtain ⟨i, hi, rfl, hW2, hn2, hR2, hJ2⟩ := hrel
        have q2 := hR2.cell
        have f2 := hR2.frozen
        by_cases hil : i < xb.length
        · obtain ⟨s, hs⟩ : ∃ s, xb[i]? = some s := ⟨xb[i], List.getElem?_eq_getElem _⟩
          have hSB := HBL.out _ hW2
          obtain ⟨sb, soff, hsA, hsb⟩ := hSB.strAddr (by omega)
          subst hsA
          have hq := hSB.str rfl hs
          obtain ⟨y, hy1, hy2⟩ := HG.out _ _ (HAT.out i hil)
          rw [hs, Option.getD_some] at hy2
          have HY1 := Lib.hid hy1
          have hiI : (i : Int) < (xb.length : Int) := by omega
          have h0i : (0 : Int) ≤ (i : Int) := by omega
          obtain ⟨fn, tmps, assign, body, hy, hR⟩ := hY (ys.take (T + i)) y wr hJ2 (by have := (List.getElem?_eq_some_iff.1 hy1).1; rw [List.length_take]; omega)
          unfold encY at hy
          rw [hy2] at hy
          dsimp only at hy
          clear hy1 hy2 hs hSB
          have HT1 := Lib.hid (take_next HY1.out)
          gi_wp2
          refine hR.mono ?_
          rintro e W3 (⟨rfl, hJ3, hk3⟩ | ⟨rfl, hJx3⟩)
          · rw [← HT1.out] at hJ3
            have hR3 := hk3.2 _ _ _ (.inr rfl) hR2
            have hW3 := hW2.below hk3.1
            have hn3 : n0 ≤ W3.heap.size := Nat.le_trans hn2 hk3.1.size
            clear hR hk3 q2 f2
            gi_wp2
            go_roundw
            case rel => exact ⟨i + 1, by omega, by go_num, hW3, hn3, hR3, hJ3⟩
            case measure => simp [intOf]; omega
          · rw [← HT1.out] at hJx3
            gi_wp2
            refine bodyPost_ret (results_none rfl _ _ _) rfl ?_
            exact ⟨⟨_, rfl⟩, .inr ⟨_, List.take_prefix _ _, hJx3⟩⟩
        · obtain rfl : i = xb.length := by omega
          have hge : ¬ (xb.length : Int) < (xb.length : Int) := by omega
          cases xcl with
          | false =>
            have HJ4 : Hid (J (ys.take (nSt (ws.take (k + 1)))) wr) := Lib.hid (by rw [HJT.out, HT.out]; exact hJ2)
            gi_wp2
            first | (refine ⟨fun _ h => (by cases h), ?_⟩; gi_wp2) | skip
            go_roundw
            case rel => exact ⟨k + 1, by omega, by go_num, hW2, hn2, HJ4.out⟩
            case measure => simp [intOf]; omega
          | true =>
            obtain ⟨y, hy1, hy2⟩ := HG.out _ _ (HCL.out rfl)
            have HY1 := Lib.hid hy1
            have HT1 := Lib.hid (take_next HY1.out)
            have HJ4 : Hid (ys.take (nSt (ws.take (k + 1))) = ys.take (T + xb.length + 1)) := Lib.hid (by rw [HJT.out, HT.out]; rfl)
            obtain ⟨fn, tmps, assign, body, hy, hR⟩ := hY (ys.take (T + xb.length)) y wr hJ2 (by have := (List.getElem?_eq_some_iff.1 hy1).1; rw [List.length_take]; omega)
            unfold encY at hy
            rw [hy2] at hy
            dsimp only at hy
            unfold blankS at hy
            clear hy1 hy2
            gi_wp2
            refine hR.mono ?_
            rintro e W3 (⟨rfl, hJ3, hk3⟩ | ⟨rfl, hJx3⟩)
            · rw [← HT1.out, ← HJ4.out] at hJ3
              have hW3 := hW2.below hk3.1
              have hn3 : n0 ≤ W3.heap.size := Nat.le_trans hn2 hk3.1.size
              clear hR hk3 q2 f2
              gi_wp2
              go_roundw
              case rel => exact ⟨k + 1, by omega, by go_num, hW3, hn3, hJ3⟩
              case measure => simp [intOf]; omega
            · rw [← HT1.out] at hJx3
              gi_wp2
              refine bodyPost_ret (results_none rfl _ _ _) rfl ?_
              exact ⟨⟨_, rfl⟩, .inr ⟨_, List.take_prefix _ _, hJx3⟩⟩
    · obtain rfl : k = m := by omega
      have hge : ¬ (k : Int) < (k : Int) := by omega
      have hfin : ys.take (nSt (ws.take k)) = ys := by rw [List.take_of_length_le (l := ws) (by rw [HM.out]; omega), List.take_of_length_le (by rw [HYL.out]; omega)]
      rw [hfin] at hJs
      clear hfin
      gi_wp2
      go_end0
      exact ⟨⟨_, rfl⟩, .inl hJs⟩
theorem steps_in (F : Fence) (n : Nat) (h58 : F.fn 58) (hro : F.round = none) (A : Option Addr) (k c : Nat) (w : World) :
    CallsIn F n Try.prog 58 #[.slice A k c] w fun e w' => e = .returned (.func (.func 78) #[] #[.pointer (some ⟨w.heap.size, 0, none⟩)]) ∧ w' = w.alloc (.cells #[.slice A k c] 24) := by
  refine callsIn_of_wp Try.func58 rfl h58 ?_ hro
  simp only [Try.ntmps58, List.size_toArray, List.length_cons, List.length_nil, Nat.reduceAdd, Nat.reduceSub, Array.replicate_succ, Array.replicate_zero, List.push_toArray, List.append_toArray, List.nil_append, List.cons_append]
  gi_wp2
  go_ret
  exact ⟨rfl, rfl⟩
theorem steps_stops {G : Stp → Prop} (F : Fence) (n : Nat) (h78 : F.fn 78) (hro : F.round = none) (hn : 1 ≤ n) (B n0 : Nat) (A : Option Addr) (c : Nat) (ws : List Wr) (ys : List (StpG G)) (hys : ys.map (·.1) = stepsL ws)
    (hwl : ws.length ≤ 1000000) (hbl : ∀ x ∈ ws, x.bl.length ≤ 1000000) (w : World) (hB : RowAt w B 24 #[.slice A ws.length c]) (hW : WrAt w n0 A ws) (hn0 : n0 ≤ w.heap.size) :
    SeqStopsK F n Try.prog 78 #[.pointer (some ⟨B, 0, none⟩)] (encY (G := G)) (KpT n0) (fun zs => zs = ys) (fun pre => pre <+: ys) ys.length w := fun l J Jx W hWb hJ _ hY h0 =>
  steps1_in F n h78 hro hn l B n0 A c ws ys hys hwl hbl J Jx (fun s W1 o h => hJ s W1 _ none h (World.grownBy_alloc W1 o none) (fun r e => by cases e)) hY W (hB.below hWb hB.lt) (hW.below (hWb.mono hn0)) (Nat.le_trans hn0 hWb.size) h0
end Go.Proofs.Ytdmdfpdigoijoaa
