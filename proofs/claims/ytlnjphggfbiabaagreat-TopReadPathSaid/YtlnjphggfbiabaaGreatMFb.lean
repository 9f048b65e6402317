/-
  productcode: the iterator over the words.
-/
import Derived.Test.YtlnjphggfbiabaaGreatMFa
import Derived.Test.YtlnjphggfbiabaaGreatRange
import Derived.Laws.Strings
import Derived.RangeFuncWrites
import Derived.Shelf.Abstract
import Derived.Shelf.RegionOpen
import Derived.LoopNIn
import Derived.LoopIn
import Derived.Deep.Cut
import Derived.Test.YtlnjphggfbiabaaGreatMEb
import Derived.BigQuiet
namespace Go.Proofs.YtlnjphggfbiabaaGreat
open Go.RowKit Go.Shelf
set_option linter.unusedVariables false
attribute [local go_sem] Oper.semAt_some

structure Wd where
  A : Option Addr
  c : Nat
  l : List Nat
def Wd.enc (x : Wd) : Array Value := #[.slice x.A x.l.length x.c]
def wordsL : List (List Nat) := (List.range 86).map pwL ++ (List.range 52).map qwL
theorem wordsL_length : wordsL.length = 138 := by simp [wordsL]
theorem wordsL_p {k : Nat} (h : k < 86) : wordsL[k]? = some (pwL k) := by
  unfold wordsL
  rw [List.getElem?_append_left (by simpa using h), List.getElem?_map, List.getElem?_range h]
  rfl
theorem wordsL_q {k : Nat} (h : k < 52) : wordsL[86 + k]? = some (qwL k) := by
  unfold wordsL
  rw [List.getElem?_append_right (by simp), List.length_map, List.length_range, Nat.add_sub_cancel_left, List.getElem?_map, List.getElem?_range h]
  rfl
/-- At the k-th yield the word lies in memory. -/
def WdP (pre : List Wd) (x : Wd) (W : World) : Prop := W.ownsRow 0 3 1 (.slice x.A x.l.length x.c) x.l.length (posV x.l) ∧ pre.map (·.l) = wordsL.take pre.length ∧ wordsL[pre.length]? = some x.l
theorem cell_cells {W : World} {g o : Nat} {u : Value} (h : W.cell? ⟨g, o, none⟩ = some u) : ∃ ob : Obj, W.heap[g]? = some ob ∧ ob.isCells = true := by
  unfold World.cell? at h
  cases ho : W.heap[g]? with
  | none => simp [ho] at h
  | some ob => exact ⟨ob, rfl, by cases ob <;> simp_all [Obj.isCells]⟩
theorem SlAt.keepO {W W' : World} {B : Nat} {A : Option Addr} {xs : List Value} (h : SlAt W B A xs) {row : Option Nat} (hg : W.grownBy W' row) (hr : ∀ r, row = some r → ∃ o : Obj, W.heap[r]? = some o ∧ o.isCells = false) : SlAt W' B A xs := fun j u hu => by
  obtain ⟨b, off, e, hb, hc⟩ := h j u hu
  obtain ⟨ob, ho, hoc⟩ := cell_cells hc
  refine ⟨b, off, e, hb, (World.cell?_of_block (hg.block b (Array.getElem?_eq_some_iff.1 ho).1 (fun e => ?_))).trans hc⟩
  obtain ⟨o', ho', hc'⟩ := hr b e.symm
  rw [ho] at ho'
  injection ho' with ho'
  rw [ho', hc'] at hoc
  exact absurd hoc (by decide)
theorem WdP.own {B : Nat} (pre : List Wd) : OwnFrom B (WdP pre) := by
  rintro x W W' row ⟨h1, h2⟩ hg hr
  exact ⟨ownsRow_own h1 hg hr, h2⟩
def WdS (_ : Unit) (xs : List Wd) : Prop := xs.map (·.l) = wordsL
theorem words_any (w : World) : Calls Tryz.prog 40 #[] w fun e w' => e = .returned (.func (.func 82) #[] #[]) ∧ w' = w := by
  go_enter Tryz.func40, Tryz.ntmps40
  go_wp2_with fail
  go_ret
  exact ⟨rfl, rfl⟩
set_option maxRecDepth 100000 in
set_option maxHeartbeats 8000000 in
theorem words1_seq (I : Unit → List Wd → World → Prop) (hIB : ∀ pre A B, I () pre A → Below A.heap.size A B → I () pre B) :
    SeqOwn Fence.wide 4 Tryz.prog 82 #[] Wd.enc I WdP () WdS := by
  intro l X W hX hY1 hI hXW
  have HX := Lib.hid hX
  have HYD := Lib.hid hY1
  have HIB := Lib.hid hIB
  have HI := Lib.hid hI
  have HXW := Lib.hid hXW
  clear hX hY1 hI hXW hIB
  refine callsIn_of_wp Tryz.func82 rfl trivial ?_ rfl
  simp only [Tryz.ntmps82, List.size_toArray, List.length_cons, List.length_nil, Nat.reduceAdd, Nat.reduceSub, Array.replicate_succ, Array.replicate_zero, List.push_toArray, List.append_toArray, List.nil_append, List.cons_append]
  refine wpIn_wide.2 ?_
  go_wp2_with fail
  go_loopw [8] (fun p wr => ∃ (k : Nat) (xs : List Wd), k ≤ 86 ∧ p = .int .i64 k ∧ I () xs wr ∧ X wr ∧ Hid (xs.map (·.l) = wordsL.take k ∧ xs.length = k)) (fun p _ => 86 - (intOf p).toNat)
  case atStart => exact ⟨0, [], by omega, rfl, HI.out, HXW.out, Lib.hid ⟨rfl, rfl⟩⟩
  case round =>
    clear HI HXW
    obtain ⟨k, xs, hk, rfl, hi, hx, HXS⟩ := hrel
    have HI := Lib.hid hi
    have HXW := Lib.hid hx
    clear hi hx
    by_cases hk86 : k < 86
    · have hkI : (k : Int) < 86 := by omega
      have CP := Lib.hid (pword_any k wr hk86)
      unfold PosRes at CP
      obtain ⟨wl, hwl⟩ : ∃ wl, pwL k = wl := ⟨_, rfl⟩
      have HWL := Lib.hid (wordsL_p hk86)
      rw [hwl] at CP HWL
      clear hwl
      go_wp2_with fail
      refine CP.out.mono ?_
      rintro e w1 ⟨hb1, A, c, rfl, ho1⟩
      obtain ⟨fn, tmps, assign, body, hy, hR⟩ := HYD.out () xs ⟨A, c, wl⟩ w1 (HIB.out _ _ _ HI.out hb1) ⟨own_base ho1 (Nat.zero_le _), by rw [HXS.out.2]; exact HXS.out.1, by rw [HXS.out.2]; exact HWL.out⟩ (HX.out _ _ HXW.out (KeepsOthers.of_below hb1))
      unfold Wd.enc at hy
      dsimp only at hy
      have HXS2 : Hid ((xs ++ [(⟨A, c, wl⟩ : Wd)]).map (·.l) = wordsL.take (k + 1) ∧ (xs ++ [(⟨A, c, wl⟩ : Wd)]).length = k + 1) := Lib.hid ⟨by rw [List.map_append, HXS.out.1, List.take_add_one, HWL.out]; rfl, by rw [List.length_append, HXS.out.2]; rfl⟩
      clear CP hb1 ho1
      go_upto_region 4 with fail
      refine (wpIn_wide (n := 4)).1 ?_
      gi_wp2
      refine hR.mono ?_
      rintro e W3 ⟨rfl, hI3, hX3⟩
      clear hy hR
      gi_wp2
      go_wp2_with fail
      go_roundw
      case rel => exact ⟨k + 1, _, by omega, by go_num, hI3, hX3, HXS2⟩
      case measure => simp [intOf]; omega
    · obtain rfl : k = 86 := by omega
      have hkI : ¬ (86 : Int) < 86 := by omega
      go_wp2_with fail
      go_loopw [21] (fun p wx => ∃ (j : Nat) (xs : List Wd), j ≤ 52 ∧ p = .int .i64 j ∧ I () xs wx ∧ X wx ∧ Hid (xs.map (·.l) = wordsL.take (86 + j) ∧ xs.length = 86 + j)) (fun p _ => 52 - (intOf p).toNat)
      case atStart => exact ⟨0, xs, by omega, rfl, HI.out, HXW.out, HXS⟩
      case round =>
        clear HI HXW HXS
        obtain ⟨j, xs, hj, rfl, hi, hx, HXS⟩ := hrel
        have HI := Lib.hid hi
        have HXW := Lib.hid hx
        clear hi hx
        by_cases hj52 : j < 52
        · have hjI : (j : Int) < 52 := by omega
          have CP := Lib.hid (qword_any j wr hj52)
          unfold PosRes at CP
          obtain ⟨wl, hwl⟩ : ∃ wl, qwL j = wl := ⟨_, rfl⟩
          have HWL := Lib.hid (wordsL_q hj52)
          rw [hwl] at CP HWL
          clear hwl
          go_wp2_with fail
          refine CP.out.mono ?_
          rintro e w1 ⟨hb1, A, c, rfl, ho1⟩
          obtain ⟨fn, tmps, assign, body, hy, hR⟩ := HYD.out () xs ⟨A, c, wl⟩ w1 (HIB.out _ _ _ HI.out hb1) ⟨own_base ho1 (Nat.zero_le _), by rw [HXS.out.2]; exact HXS.out.1, by rw [HXS.out.2]; exact HWL.out⟩ (HX.out _ _ HXW.out (KeepsOthers.of_below hb1))
          unfold Wd.enc at hy
          dsimp only at hy
          have HXS2 : Hid ((xs ++ [(⟨A, c, wl⟩ : Wd)]).map (·.l) = wordsL.take (86 + (j + 1)) ∧ (xs ++ [(⟨A, c, wl⟩ : Wd)]).length = 86 + (j + 1)) := Lib.hid ⟨by rw [List.map_append, HXS.out.1, ← Nat.add_assoc, List.take_add_one, HWL.out]; rfl, by rw [List.length_append, HXS.out.2]; rfl⟩
          clear CP hb1 ho1
          go_upto_region 10 with fail
          refine (wpIn_wide (n := 4)).1 ?_
          gi_wp2
          refine hR.mono ?_
          rintro e W3 ⟨rfl, hI3, hX3⟩
          clear hy hR
          gi_wp2
          go_wp2_with fail
          go_roundw
          case rel => exact ⟨j + 1, _, by omega, by go_num, hI3, hX3, HXS2⟩
          case measure => simp [intOf]; omega
        · obtain rfl : j = 52 := by omega
          have hjI : ¬ (52 : Int) < 52 := by omega
          go_wp2_with fail
          refine bodyPost_end (results_none rfl _ _ _) rfl ?_
          exact ⟨⟨_, rfl⟩, (), xs, by show xs.map (·.l) = wordsL; rw [HXS.out.1, List.take_of_length_le (by rw [wordsL_length]; exact Nat.le_refl _)], HI.out, HXW.out⟩
end Go.Proofs.YtlnjphggfbiabaaGreat

/-
  productcode: first, take, put.
-/
namespace Go.Proofs.YtlnjphggfbiabaaGreat
open Go.RowKit
set_option linter.unusedVariables false

theorem first_one (w : World) : Calls Tryz.prog 38 #[.int .i64 0] w fun e w' => e = .returned (.tuple #[.int .i64 12, .bool true]) ∧ w = w' := by
  go_enter Tryz.func38, Tryz.ntmps38
  go_wp2_with fail
  go_ret2
  exact ⟨rfl, rfl⟩
def takeN (raw wl : List Nat) : List Nat := wl.map fun a => raw[a]?.getD 0
def takeK (raw wl : List Nat) (k : Nat) : List Nat := (takeN raw (wl.take k)) ++ List.replicate (wl.length - k) 0
theorem takeN_length (raw wl : List Nat) : (takeN raw wl).length = wl.length := by simp [takeN]
theorem takeK_length (raw wl : List Nat) {k : Nat} (hk : k ≤ wl.length) : (takeK raw wl k).length = wl.length := by
  unfold takeK
  rw [List.length_append, takeN_length, List.length_take, List.length_replicate]
  omega
theorem takeN_b8 {raw : List Nat} (h : B8 raw) (wl : List Nat) : B8 (takeN raw wl) := fun n hn => by
  obtain ⟨a, _, rfl⟩ := List.mem_map.1 hn
  exact h.getD a
theorem takeK_set {raw wl : List Nat} {k a : Nat} (h : wl[k]? = some a) : (takeK raw wl k).set k (raw[a]?.getD 0) = takeK raw wl (k + 1) := by
  have hk := (List.getElem?_eq_some_iff.1 h).1
  obtain ⟨m, hm⟩ : ∃ m, wl.length - k = m + 1 := ⟨wl.length - k - 1, by omega⟩
  have hl : (takeN raw (wl.take k)).length = k := by rw [takeN_length, List.length_take]; omega
  unfold takeK
  rw [hm, List.set_append_right _ _ (by omega), hl, Nat.sub_self, List.replicate_succ, List.set_cons_zero, show wl.length - (k + 1) = m by omega, List.take_add_one, h]
  simp [takeN]
theorem own_set_bytes {W : World} {base e e' size n g j : Nat} {v u : Value} {xs : List Value} {l : List UInt8} (h : W.ownsRow base e size v n xs) (hr : BytesAt W g e' l) (hne : e ≠ e') : (W.setCell ⟨g, j, none⟩ u).ownsRow base e size v n xs := by
  obtain ⟨C, fr, hC, _⟩ := hr
  refine ⟨h.1, ?_⟩
  rcases h.2 with h2 | ⟨k, cap, cur, hv, hb, hh, r⟩
  · exact .inl h2
  · refine .inr ⟨k, cap, cur, hv, hb, ?_, r⟩
    have hkg : k ≠ g := fun e2 => by
      subst e2
      rw [hh] at hC
      injection hC with hC
      injection hC with _ h3 _
      exact hne h3
    have h1 : (W.setCell ⟨g, j, none⟩ u).heap[k]? = W.heap[k]? := Below.heap_setCell W _ _ k hkg
    rw [h1]
    exact hh
theorem grownBy_set {w0 w : World} {g : Nat} (h : w0.grownBy w (some g)) (j : Nat) (v : Value) : w0.grownBy (w.setCell ⟨g, j, none⟩ v) (some g) :=
  ⟨h.os, h.tape, h.output, by rw [World.size_setCell]; exact h.size, fun k hk hne => (Below.heap_setCell w ⟨g, j, none⟩ v k (fun e => hne (by rw [e]))).trans (h.block k hk hne)⟩
theorem grownBy_refl (w : World) (r : Option Nat) : w.grownBy w r := ⟨rfl, rfl, rfl, Nat.le_refl _, fun _ _ _ => rfl⟩
set_option maxRecDepth 100000 in
set_option maxHeartbeats 4000000 in
theorem take_any (raw wl : List Nat) (A A' : Option Addr) (c c' : Nat) (w : World) (h : SlAt w w.heap.size A (natV raw)) (h' : SlAt w w.heap.size A' (posV wl)) (h8 : B8 raw) (hlt : ∀ a ∈ wl, 12 ≤ a ∧ a < raw.length) (hl : wl.length ≤ 100) (hr : raw.length ≤ 100000) :
    Calls Tryz.prog 68 #[.slice A raw.length c, .slice A' wl.length c', .int .i64 12] w fun e w' => e = .returned (.string (natS (takeN raw wl))) ∧ Below w.heap.size w w' := by
  have HS := Lib.hid h
  have HS' := Lib.hid h'
  have H8 := Lib.hid h8
  have HLT := Lib.hid hlt
  obtain ⟨n, hn⟩ : ∃ n, wl.length = n := ⟨_, rfl⟩
  obtain ⟨m, hm⟩ : ∃ m, raw.length = m := ⟨_, rfl⟩
  have HN := Lib.hid hn
  have HM := Lib.hid hm
  rw [hn] at hl ⊢
  rw [hm] at hr ⊢
  have hmk8 : ∀ w', (Instr.makeSlice 75 (.int .i64 (n : Int)) (.int .i64 (n : Int))).run Tryz.prog w' = .ok (.slice (some ⟨w'.heap.size, 0, none⟩) n n) (w'.alloc (.cells (natV (takeK raw wl 0)).toArray 5)) := fun w' => by
    have h9 := run_mk8 Tryz.underlying75 n (by omega) w'
    have e9 : madeCells #[Value.int .u8 0] n = (natV (takeK raw wl 0)).toArray := by
      apply Array.ext'
      rw [toList_madeCells_one, natV_zeros]
      simp [takeK, takeN, hn]
    rw [e9] at h9
    exact h9
  clear h h' h8 hlt hn hm
  go_enter Tryz.func68, Tryz.ntmps68
  go_wp2_with fail
  go_loopw [15] (fun i wr => ∃ k : Nat, k ≤ n ∧ i = .int .i64 (k : Int) ∧ St w wr [(w.heap.size, 5, (natV (takeK raw wl k)).toArray)]) (fun i _ => n - (intOf i).toNat)
  case atStart => exact ⟨0, by omega, rfl, (St.start w).alloc _ _⟩
  case round =>
    obtain ⟨k, hk, rfl, hst⟩ := hrel
    have HST := Lib.hid hst
    by_cases hkn : k < n
    · obtain ⟨a, ha⟩ : ∃ a, wl[k]? = some a := ⟨wl[k]'(by rw [HN.out]; exact hkn), List.getElem?_eq_getElem _⟩
      obtain ⟨h12, ham⟩ := HLT.out a (List.mem_of_getElem? ha)
      rw [HM.out] at ham
      obtain ⟨b1, o1, hA1, _⟩ := HS'.out.posAddr (by rw [HN.out]; omega)
      subst hA1
      have q1 := (HS'.out.below hst.bel).pos rfl ha
      obtain ⟨b2, o2, hA2, _⟩ := HS.out.natAddr (by rw [HM.out]; omega)
      subst hA2
      obtain ⟨x, hx⟩ : ∃ x, raw[a]? = some x := ⟨raw[a]'(by rw [HM.out]; exact ham), List.getElem?_eq_getElem _⟩
      have q2 := (HS.out.below hst.bel).nat rfl hx
      have HK : Hid ((takeK raw wl k).set k x = takeK raw wl (k + 1)) := Lib.hid (by rw [← takeK_set (raw := raw) ha, hx]; rfl)
      obtain ⟨y, hy⟩ : ∃ y, (takeK raw wl k)[k]? = some y := ⟨_, List.getElem?_eq_getElem (by rw [takeK_length raw wl (by rw [HN.out]; exact hk), HN.out]; exact hkn)⟩
      have q3 : wr.cell? ⟨w.heap.size, k, none⟩ = some (.int .u8 (y : Int)) := by rw [(hst.at (i := 0) rfl).cell, List.getElem?_toArray]; exact natV_get hy
      have f3 := (hst.at (i := 0) rfl).frozen k
      have hkI : (k : Int) < (n : Int) := by omega
      have h0k : (0 : Int) ≤ (k : Int) := by omega
      have h12I : (12 : Int) ≤ (a : Int) := by omega
      have h0a : (0 : Int) ≤ (a : Int) := by omega
      have haI : (a : Int) < (m : Int) := by omega
      clear hst ha hx hy
      go_wp2_with fail
      go_roundw
      case rel =>
        have h9 := HST.out.set 0 rfl k (.int .u8 (x : Int))
        have e9 : (natV (takeK raw wl k)).toArray.setIfInBounds k (.int .u8 (x : Int)) = (natV (takeK raw wl (k + 1))).toArray := by rw [← HK.out, ← natV_set, List.setIfInBounds_toArray]
        rw [e9] at h9
        exact ⟨k + 1, by omega, by go_num, h9⟩
      case measure => simp [intOf]; omega
    · obtain rfl : k = n := by omega
      have hkI : ¬ (k : Int) < (k : Int) := by omega
      have hfin : takeK raw wl k = takeN raw wl := by
        unfold takeK
        rw [List.take_of_length_le (by rw [HN.out]; exact Nat.le_refl _), HN.out, Nat.sub_self]
        simp
      have hcv := run_str_at Tryz.underlying75 Tryz.underlying5 Tryz.underlying9 (w := wr) (b := w.heap.size) (off := 0) k (takeN raw wl) (takeN_b8 H8.out wl) (fun j x hx => by
        rw [(hst.at (i := 0) rfl).cell, List.getElem?_toArray, Nat.zero_add, hfin]
        exact natV_get hx) k (by rw [takeN_length, HN.out])
      clear hst hfin
      go_wp2_with fail
      go_ret
      exact ⟨rfl, HST.out.bel⟩
def putK (d wl sy : List Nat) : Nat → List Nat
  | 0 => d
  | k + 1 => (putK d wl sy k).set (wl[k]?.getD 0) (sy[k]?.getD 0)
def putN (d wl sy : List Nat) : List Nat := putK d wl sy wl.length
theorem putK_length (d wl sy : List Nat) : ∀ k, (putK d wl sy k).length = d.length
  | 0 => rfl
  | k + 1 => by rw [putK, List.length_set, putK_length]
theorem putK_b8 {d wl sy : List Nat} (h : B8 d) (hs : B8 sy) : ∀ k, B8 (putK d wl sy k)
  | 0 => h
  | k + 1 => by
    rw [putK]
    exact B8.set (putK_b8 h hs k) (hs.getD _) _
def chgK (d wl sy : List Nat) : Nat → Bool
  | 0 => false
  | k + 1 => chgK d wl sy k || decide ((putK d wl sy k)[wl[k]?.getD 0]?.getD 0 ≠ sy[k]?.getD 0)
theorem grownBy_drewN {w0 w : World} {r : Option Nat} (h : w0.grownBy w r) (k : Nat) : w0.grownBy (w.drewN k) r := by
  induction k with
  | zero => exact h
  | succ k ih => exact ⟨ih.os, ih.tape, ih.output, ih.size, ih.block⟩
set_option maxRecDepth 100000 in
set_option maxHeartbeats 4000000 in
theorem put_any (d wl sy : List Nat) (g cap : Nat) (A' : Option Addr) (c' : Nat) (w : World) (h : BytesAt w g 5 (ofL d)) (h' : w.ownsRow 0 3 1 (.slice A' wl.length c') wl.length (posV wl)) (h8 : B8 d) (hs8 : B8 sy) (hsl : sy.length = wl.length) (hlt : ∀ a ∈ wl, 12 ≤ a ∧ a < d.length) (hl : wl.length ≤ 100) (hr : d.length ≤ 100000) :
    Calls Tryz.prog 69 #[.slice (some ⟨g, 0, none⟩) d.length cap, .slice A' wl.length c', .int .i64 12, .string (natS sy)] w fun e w' => e = .returned (.bool (chgK d wl sy wl.length)) ∧ w.grownBy w' (some g) ∧ BytesAt w' g 5 (ofL (putN d wl sy)) := by
  have HS := Lib.hid h
  have HS' := Lib.hid h'
  have H8 := Lib.hid h8
  have HS8 := Lib.hid hs8
  have HLT := Lib.hid hlt
  obtain ⟨n, hn⟩ : ∃ n, wl.length = n := ⟨_, rfl⟩
  obtain ⟨m, hm⟩ : ∃ m, d.length = m := ⟨_, rfl⟩
  have HN := Lib.hid hn
  have HM := Lib.hid hm
  have HSY : Hid (sy.length = n) := Lib.hid (hsl.trans hn)
  have HPN : Hid (putN d wl sy = putK d wl sy n) := Lib.hid (by unfold putN; rw [hn])
  have hss : (natS sy).size = n := by rw [natS_size, hsl, hn]
  have HGX : Hid (∀ k x, sy[k]? = some x → ∃ hk : k < (natS sy).size, ((natS sy)[k]'hk).toNat = x) := Lib.hid (fun k x hx => by
    have hk : k < (natS sy).size := by rw [natS_size]; exact (List.getElem?_eq_some_iff.1 hx).1
    have h1 := sN_get hk
    rw [sN_natS hs8, hx] at h1
    exact ⟨hk, (Option.some.inj h1).symm⟩)
  rw [hn] at hl HS' ⊢
  rw [hm] at hr ⊢
  rw [HPN.out]
  generalize hS : natS sy = S at *
  clear h h' h8 hs8 hlt hn hm hsl hS
  go_enter Tryz.func69, Tryz.ntmps69
  go_wp2_with fail
  go_loopw [9, 14] (fun v i wr => ∃ k : Nat, k ≤ n ∧ i = .int .i64 (k : Int) ∧ v = .bool (chgK d wl sy k) ∧ w.grownBy wr (some g) ∧ BytesAt wr g 5 (ofL (putK d wl sy k)) ∧ wr.ownsRow 0 3 1 (.slice A' n c') n (posV wl)) (fun _ i _ => n - (intOf i).toNat)
  case atStart => exact ⟨0, by omega, rfl, rfl, grownBy_refl w _, HS.out, HS'.out⟩
  case round =>
    obtain ⟨k, hk, rfl, rfl, hgb, hby, how⟩ := hrel
    have HGB := Lib.hid hgb
    have HBY := Lib.hid hby
    have HOW := Lib.hid how
    by_cases hkn : k < n
    · obtain ⟨a, ha⟩ : ∃ a, wl[k]? = some a := ⟨wl[k]'(by rw [HN.out]; exact hkn), List.getElem?_eq_getElem _⟩
      obtain ⟨h12, ham⟩ := HLT.out a (List.mem_of_getElem? ha)
      rw [HM.out] at ham
      obtain ⟨y, hy⟩ : ∃ y, sy[k]? = some y := ⟨sy[k]'(by rw [HSY.out]; exact hkn), List.getElem?_eq_getElem _⟩
      have hy8 := HS8.out.get hy
      have hsl := SlAt.of_own' how (Nat.le_refl _)
      obtain ⟨b1, o1, hA1, _⟩ := hsl.posAddr (by rw [HN.out]; omega)
      subst hA1
      have q1 := hsl.pos rfl ha
      have hpl : (putK d wl sy k).length = m := by rw [putK_length, HM.out]
      obtain ⟨x, hx⟩ : ∃ x, (putK d wl sy k)[a]? = some x := ⟨_, List.getElem?_eq_getElem (by rw [hpl]; exact ham)⟩
      have HP8 := Lib.hid (putK_b8 (wl := wl) H8.out HS8.out k)
      have q2 := bytes_cell hby HP8.out hx
      have f2 := hby.frozen a (by unfold ofL; rw [List.length_map, hpl]; exact ham)
      obtain ⟨hks, hgx⟩ := HGX.out k y hy
      have HPK : Hid (putK d wl sy (k + 1) = (putK d wl sy k).set a y) := Lib.hid (by rw [putK, ha, hy]; rfl)
      have HCK : Hid (chgK d wl sy (k + 1) = (chgK d wl sy k || decide (x ≠ y))) := Lib.hid (by rw [chgK, ha, hy]; simp [hx])
      have hkI : (k : Int) < (n : Int) := by omega
      have h0k : (0 : Int) ≤ (k : Int) := by omega
      have h12I : (12 : Int) ≤ (a : Int) := by omega
      have h0a : (0 : Int) ≤ (a : Int) := by omega
      have haI : (a : Int) < (m : Int) := by omega
      have hksI : (k : Int) < (S.size : Int) := by omega
      clear hgb hby how ha hy hsl hpl hx
      cases hch : chgK d wl sy k with
      | true =>
        rw [hch] at HCK
        go_upto_region 6 with fail
        go_quiet (fail)
        go_wp2_with fail
        go_roundw
        case rel =>
          exact ⟨k + 1, by omega, by go_num, by rw [HCK.out]; rfl, grownBy_set (grownBy_drewN HGB.out _) a _, by rw [HPK.out, ← hgx]; exact bytes_set (HBY.out.drewN _) a _ (by rw [hgx]; exact hy8), own_set_bytes (own_drewN HOW.out _) (HBY.out.drewN _) (by decide)⟩
        case measure => simp [intOf]; omega
      | false =>
        rw [hch] at HCK
        by_cases hxy : x = y
        · subst hxy
          have hn0 : ((x : Int) != (x : Int)) = false := by simp
          go_upto_region 6 with fail
          go_quiet (fail)
          go_wp2_with fail
          go_roundw
          case rel => exact ⟨k + 1, by omega, by go_num, by rw [HCK.out]; simp, grownBy_set (grownBy_drewN HGB.out _) a _, by rw [HPK.out]; exact bytes_set (HBY.out.drewN _) a _ hy8, own_set_bytes (own_drewN HOW.out _) (HBY.out.drewN _) (by decide)⟩
          case measure => simp [intOf]; omega
        · have hn0 : ((x : Int) != (y : Int)) = true := by simp; omega
          have hn1 : ¬ ((x : Int) = (y : Int)) := by omega
          go_upto_region 6 with fail
          go_quiet (fail)
          go_wp2_with fail
          go_roundw
          case rel => exact ⟨k + 1, by omega, by go_num, by rw [HCK.out]; simp [hxy], grownBy_set (grownBy_drewN HGB.out _) a _, by rw [HPK.out]; exact bytes_set (HBY.out.drewN _) a _ hy8, own_set_bytes (own_drewN HOW.out _) (HBY.out.drewN _) (by decide)⟩
          case measure => simp [intOf]; omega
    · obtain rfl : k = n := by omega
      have hkI : ¬ (k : Int) < (k : Int) := by omega
      clear hgb hby how
      go_wp2_with fail
      go_ret
      exact ⟨rfl, HGB.out, HBY.out⟩
end Go.Proofs.YtlnjphggfbiabaaGreat
