/-
  productcode: plain facts of pass; the closure, all, sound, Valid.
-/
import Derived.Test.YtlnjphggfbiabaaGreatMFh
namespace Go.Proofs.YtlnjphggfbiabaaGreat
open Go.RowKit Go.Maps Go.Shelf
set_option linter.unusedVariables false
attribute [local go_sem] Oper.semAt_some

/-! ### Plain words -/
/-- A sector all words of which are codewords. -/
structure SecOk (C : List Nat) : Prop where
  len : C.length = 2352
  b8 : B8 C
  code : ∀ wl ∈ wordsL, ∀ i, i < 2 → evalN (takeN C wl) (powN i) = 0
def OffL (D C l : List Nat) : Prop := D.length = 2352 ∧ B8 D ∧ ∀ j : Nat, j ∉ l → D[j]? = C[j]?
theorem posN_mem {wl l : List Nat} {i : Nat} : i ∈ posN wl l wl.length ↔ i < wl.length ∧ wl[i]?.getD 0 ∈ l := by
  unfold posN
  rw [List.mem_filter, List.mem_range]
  simp
theorem posN_inc (wl l : List Nat) (k : Nat) : (posN wl l k).Pairwise (· < ·) := List.Pairwise.filter _ List.pairwise_lt_range
theorem takeN_get {C wl : List Nat} {i a : Nat} (h : wl[i]? = some a) : (takeN C wl)[i]? = some (C[a]?.getD 0) := by
  unfold takeN
  rw [List.getElem?_map, h]
  rfl
theorem word_era {D C l wl : List Nat} (hc : SecOk C) (hd : OffL D C l) (hw : wl ∈ wordsL) (h2 : (posN wl l wl.length).length ≤ 2) : EraOk (sN (natS (takeN D wl))) (takeN C wl) 2 (posN wl l wl.length) := by
  obtain ⟨hwn, hwi⟩ := wordsL_in hw
  rw [sN_natS (takeN_b8 hd.2.1 wl)]
  exact {
    bd := takeN_b8 hd.2.1 wl
    bc := takeN_b8 hc.b8 wl
    len := by rw [takeN_length, takeN_length]
    le := by rw [takeN_length]; omega
    p1 := by decide
    code := fun i hi => hc.code wl hw i hi
    lt := fun a ha => by rw [takeN_length]; exact (posN_mem.1 ha).1
    nd := nd_lt (posN_inc wl l _)
    off := fun j hj => by
      by_cases hjl : j < wl.length
      · have hg := List.getElem?_eq_getElem hjl
        have hn : wl[j] ∉ l := fun hm => hj (posN_mem.2 ⟨hjl, by rw [hg]; exact hm⟩)
        rw [takeN_get hg, takeN_get hg, hd.2.2 _ hn]
      · rw [List.getElem?_eq_none (by rw [takeN_length]; omega), List.getElem?_eq_none (by rw [takeN_length]; omega)]
    few := h2 }
theorem putK_get {D C wl : List Nat} (hD : D.length = C.length) (hC : C.length = 2352) (hwi : ∀ a ∈ wl, 12 ≤ a ∧ a < 2352) : ∀ k, k ≤ wl.length → ∀ j : Nat, (j ∈ wl.take k → (putK D wl (takeN C wl) k)[j]? = C[j]?) ∧ (j ∉ wl.take k → (putK D wl (takeN C wl) k)[j]? = D[j]?)
  | 0, _, j => ⟨fun h => by simp at h, fun _ => rfl⟩
  | k + 1, hk, j => by
    have hg := List.getElem?_eq_getElem (show k < wl.length by omega)
    have hin := hwi _ (List.getElem_mem (show k < wl.length by omega))
    obtain ⟨i1, i2⟩ := putK_get hD hC hwi k (by omega) j
    rw [putK, hg, takeN_get hg, List.take_add_one, hg]
    simp only [Option.getD_some, Option.toList_some]
    rw [List.getElem?_set, putK_length]
    by_cases h : wl[k] = j
    · subst h
      rw [if_pos rfl, if_pos (by omega), List.getElem?_eq_getElem (show wl[k] < C.length by omega)]
      exact ⟨fun _ => rfl, fun h => absurd (List.mem_append_right _ (List.mem_singleton.2 rfl)) h⟩
    · rw [if_neg h]
      refine ⟨fun h2 => ?_, fun h2 => i2 (fun h3 => h2 (List.mem_append_left _ h3))⟩
      rcases List.mem_append.1 h2 with h2 | h2
      · exact i1 h2
      · exact absurd (List.mem_singleton.1 h2).symm h
theorem put_off {D C l wl : List Nat} (hc : SecOk C) (hd : OffL D C l) (hw : wl ∈ wordsL) : OffL (putN D wl (takeN C wl)) C (relK wl l wl.length) := by
  obtain ⟨hwn, hwi⟩ := wordsL_in hw
  have hlen := hd.1
  refine ⟨by unfold putN; rw [putK_length]; exact hlen, putK_b8 hd.2.1 (takeN_b8 hc.b8 wl) _, fun j hj => ?_⟩
  unfold putN
  obtain ⟨i1, i2⟩ := putK_get (D := D) (hlen.trans hc.len.symm) hc.len hwi _ (Nat.le_refl _) j
  rw [List.take_length] at i1 i2
  by_cases h : j ∈ wl
  · exact i1 h
  · rw [i2 h]
    refine hd.2.2 j (fun hl => hj ?_)
    unfold relK
    rw [List.take_length]
    exact List.mem_filter.2 ⟨hl, by simpa using h⟩
theorem chg_hit {D C l wl : List Nat} (hc : SecOk C) (hd : OffL D C l) (hw : wl ∈ wordsL) : ∀ k, k ≤ wl.length → chgK D wl (takeN C wl) k = true → 1 ≤ (posN wl l wl.length).length
  | 0, _, h => by cases h
  | k + 1, hk, h => by
    rw [chgK, Bool.or_eq_true] at h
    rcases h with h | h
    · exact chg_hit hc hd hw k (by omega) h
    · have hg := List.getElem?_eq_getElem (show k < wl.length by omega)
      obtain ⟨hwn, hwi⟩ := wordsL_in hw
      rw [hg, takeN_get hg] at h
      have h := of_decide_eq_true h
      simp only [Option.getD_some] at h
      obtain ⟨i1, i2⟩ := putK_get (D := D) (hd.1.trans hc.len.symm) hc.len hwi k (by omega) wl[k]
      have hne : D[wl[k]]? ≠ C[wl[k]]? := fun e => by
        have : (putK D wl (takeN C wl) k)[wl[k]]? = C[wl[k]]? := by
          by_cases hm : wl[k] ∈ wl.take k
          · exact i1 hm
          · rw [i2 hm, e]
        rw [this] at h
        exact h rfl
      have hm : wl[k] ∈ l := Classical.byContradiction fun hn => hne (hd.2.2 _ hn)
      exact List.length_pos_of_mem (posN_mem.2 ⟨show k < wl.length by omega, by rw [hg]; exact hm⟩)
theorem rel_none {wl l : List Nat} (h : (posN wl l wl.length).length = 0) : relK wl l wl.length = l := by
  unfold relK
  rw [List.take_length]
  refine List.filter_eq_self.2 fun x hx => ?_
  have : x ∉ wl := fun hw => by
    obtain ⟨j, hj⟩ := List.mem_iff_getElem?.1 hw
    have := List.length_pos_of_mem (posN_mem.2 ⟨(List.getElem?_eq_some_iff.1 hj).1, by rw [hj]; exact hx⟩)
    omega
  simpa using this
theorem peelW_two {wl l : List Nat} (h : (posN wl l wl.length).length ≤ 2) : peelW l wl = relK wl l wl.length := by
  unfold peelW
  split
  · rfl
  · exact (rel_none (by omega)).symm
theorem peelW_many {wl l : List Nat} (h : ¬ (posN wl l wl.length).length ≤ 2) : peelW l wl = l := if_neg (fun e => h e.2)
/-! ### The closure and all -/
theorem inside_any (i g10 g4 g11 n c : Nat) (A : Option Addr) (wl : List Nat) (w : World) (h10 : RowAt w g10 29 #[.slice A n c]) (h4 : RowAt w g4 3 #[.int .i64 12]) (hs : SlAt w w.heap.size A (posV wl)) (hn : wl.length = n) (hi : i < n) (hwi : ∀ a ∈ wl, 12 ≤ a) :
    Calls Tryz.prog 86 #[.int .i64 (i : Int), .pointer (some ⟨g10, 0, none⟩), .pointer (some ⟨g4, 0, none⟩), .pointer (some ⟨g11, 0, none⟩)] w fun e w' => e = .returned (.bool true) ∧ Below w.heap.size w w' := by
  have q10 := h10.cell
  have q4 := h4.cell
  obtain ⟨a, ha⟩ : ∃ a, wl[i]? = some a := ⟨wl[i]'(by omega), List.getElem?_eq_getElem _⟩
  obtain ⟨b, o, hA, _⟩ := hs.posAddr (by omega)
  subst hA
  have q1 := hs.pos rfl ha
  have ha12 : (12 : Int) ≤ (a : Int) := by have := hwi a (List.mem_of_getElem? ha); omega
  have h0i : (0 : Int) ≤ (i : Int) := by omega
  have hiI : (i : Int) < (n : Int) := by omega
  clear h10 h4 hs hn hwi ha
  go_enter Tryz.func86, Tryz.ntmps86
  go_wp2_with fail
  go_quiet (fail)
  go_wp2_with fail
  go_ret
  exact ⟨rfl, below_drewN (Below.refl _ _) _⟩
theorem all_any (g10 g4 g11 n c : Nat) (A : Option Addr) (wl : List Nat) (w : World) (h10 : RowAt w g10 29 #[.slice A n c]) (h4 : RowAt w g4 3 #[.int .i64 12]) (hs : SlAt w w.heap.size A (posV wl)) (hn : wl.length = n) (hn1 : n ≤ 100) (hwi : ∀ a ∈ wl, 12 ≤ a) :
    Calls Tryz.prog 87 #[.int .i64 (n : Int), .func (.func 86) #[] #[.pointer (some ⟨g10, 0, none⟩), .pointer (some ⟨g4, 0, none⟩), .pointer (some ⟨g11, 0, none⟩)]] w fun e w' => e = .returned (.bool true) ∧ Below w.heap.size w w' := by
  have H10 := Lib.hid h10
  have H4 := Lib.hid h4
  have HS := Lib.hid hs
  have HN := Lib.hid hn
  have HW := Lib.hid hwi
  clear h10 h4 hs hn hwi
  go_enter Tryz.func87, Tryz.ntmps87
  go_wp2_with fail
  go_loopw [7] (fun i wr => ∃ k : Nat, k ≤ n ∧ i = .int .i64 (k : Int) ∧ Below w.heap.size w wr) (fun i _ => n - (intOf i).toNat)
  case atStart => exact ⟨0, by omega, rfl, Below.refl _ _⟩
  case round =>
    obtain ⟨k, hk, rfl, hbel⟩ := hrel
    have HB := Lib.hid hbel
    by_cases hkn : k < n
    · have hkI : (k : Int) < (n : Int) := by omega
      have C := Lib.hid (inside_any k g10 g4 g11 n c A wl wr (H10.out.below hbel H10.out.lt) (H4.out.below hbel H4.out.lt) ((HS.out.below hbel).mono hbel.size) HN.out hkn HW.out)
      clear hbel
      go_wp2_with fail
      refine C.out.mono ?_
      rintro e w1 ⟨rfl, hb1⟩
      have HB1 := Lib.hid (HB.out.trans (hb1.mono HB.out.size))
      clear hb1
      go_wp2_with fail
      go_roundw
      case rel => exact ⟨k + 1, by omega, by go_num, HB1.out⟩
      case measure => simp [intOf]; omega
    · obtain rfl : k = n := by omega
      have hkI : ¬ (k : Int) < (k : Int) := by omega
      go_wp2_with fail
      go_ret
      exact ⟨rfl, hbel⟩
/-! ### sound, Valid: of a sector all words of which are codewords -/
def SoI (w0 : World) (b2 b3 b4 : Nat) (A : Option Addr) (c : Nat) (C : List Nat) (_ : Unit) (pre : List Wd) (W : World) : Prop :=
  Below w0.heap.size w0 W ∧ RowAt W b2 75 #[.slice A 2352 c] ∧ RowAt W b3 3 #[.int .i64 12] ∧ RowAt W b4 4 #[.bool false]
theorem SoI.below {w0 A B : World} {b2 b3 b4 c : Nat} {Ad : Option Addr} {C : List Nat} {pre : List Wd} (h : SoI w0 b2 b3 b4 Ad c C () pre A) (hb : Below A.heap.size A B) : SoI w0 b2 b3 b4 Ad c C () pre B :=
  ⟨h.1.trans (hb.mono h.1.size), h.2.1.below hb h.2.1.lt, h.2.2.1.below hb h.2.2.1.lt, h.2.2.2.below hb h.2.2.2.lt⟩
theorem SoI.own {w0 : World} {b2 b3 b4 c B : Nat} {Ad : Option Addr} {C : List Nat} (hB : w0.heap.size ≤ B) (σ : Unit) : OwnFrom B (SoI w0 b2 b3 b4 Ad c C σ) := by
  rintro pre W W' row ⟨h1, h2, h3, h4⟩ hg hr
  exact ⟨h1.grown hg h1.size (fun k e => Nat.le_trans hB (hr k e).1), rowAt_own h2 hg hr, rowAt_own h3 hg hr, rowAt_own h4 hg hr⟩
set_option maxRecDepth 100000 in
set_option maxHeartbeats 8000000 in
theorem sound_ok (C : List Nat) (A : Option Addr) (c : Nat) (w : World) (h : SlAt w w.heap.size A (natV C)) (hc : SecOk C) :
    Calls Tryz.prog 47 #[.slice A 2352 c, .int .i64 12] w fun e w' => e = .returned (.bool true) ∧ Below w.heap.size w w' := by
  have HS := Lib.hid h
  have HC := Lib.hid hc
  clear h hc
  refine (callsIn_wide (n := 5)).1 ?_
  refine callsIn_of_wp_marks Tryz.func47 rfl trivial ?_ rfl
  simp only [Tryz.ntmps47, List.size_toArray, List.length_cons, List.length_nil, Nat.reduceAdd, Nat.reduceSub, Array.replicate_succ, Array.replicate_zero, List.push_toArray, List.append_toArray, List.nil_append, List.cons_append]
  refine wpIn_wide.2 ?_
  go_wp2_with fail
  refine (words_any _).mono ?_
  rintro e w2 ⟨rfl, hw2⟩
  have H0 : Hid (SoI w w.heap.size (w.heap.size + 1) (w.heap.size + 1 + 1) A c C () [] w2) := Lib.hid (by
    rw [hw2]
    have h1 := ((St.start w).alloc #[.slice A 2352 c] 75).new (g := w.heap.size + 1) (by simp) #[.int .i64 12] 3
    have h2 := h1.new (g := w.heap.size + 1 + 1) (by simp) #[.bool false] 4
    exact ⟨h2.bel, h2.at (i := 2) rfl, h2.at (i := 1) rfl, h2.at (i := 0) rfl⟩)
  clear hw2
  go_wp2_with fail
  refine (wpIn_wide (n := 5)).1 ?_
  refine range_own rfl (by omega) (gf := 82) (lb := #[]) rfl trivial (enters_of Tryz.func82 (by kernel_rfl) rfl)
    (encs := Wd.enc) (fun _ => rfl) (I := SoI w w.heap.size (w.heap.size + 1) (w.heap.size + 1 + 1) A c C) (Px := WdP) (words1_seq _ (fun pre A B h hb => h.below hb)) (fun σ => SoI.own H0.out.1.size σ) (fun pre => WdP.own pre) H0.out
    (fun x => { tmps := #[.slice A 2352 c, .int .i64 12, .pointer (some ⟨w.heap.size, 0, none⟩), .pointer (some ⟨w.heap.size + 1, 0, none⟩), .pointer (some ⟨w.heap.size + 1 + 1, 0, none⟩), .slice x.A x.l.length x.c, .func (.func 82) #[] #[], .slice x.A x.l.length x.c, undef, undef, undef, undef, undef, undef], defers := [] }) ?assign ?body ?done
  case assign =>
    rintro l ⟨xA, xc, xl⟩ W K hK
    dsimp only [Wd.enc] at hK ⊢
    gi_wp2
    exact hK
  case body =>
    rintro l σ pre ⟨xA, xc, xl⟩ W ⟨i1, i2, i3, i4⟩ ⟨hwo, hpm, hwl⟩
    dsimp only at hwo hwl ⊢
    have hmem := List.mem_of_getElem? hwl
    obtain ⟨hwn, hwi⟩ := wordsL_in hmem
    have hcl := HC.out.len
    have CT := Lib.hid (take_any C xl A xA c xc W ((HS.out.below i1).mono i1.size) (SlAt.of_own' hwo (Nat.le_refl _)) HC.out.b8 (by rw [hcl]; exact hwi) (by omega) (by rw [hcl]; omega))
    rw [hcl] at CT
    have htl : (natS (takeN C xl)).size = xl.length := by rw [natS_size, takeN_length]
    have CV := Lib.hid (fun w' => rsvalid_any (natS (takeN C xl)) 2 w' (by omega) (by omega) (by omega) (by omega))
    have hval : validN (sN (natS (takeN C xl))) 2 = true := by
      rw [sN_natS (takeN_b8 HC.out.b8 xl)]
      exact (valid_iff (takeN_b8 HC.out.b8 xl)).2 (HC.out.code xl hmem)
    rw [hval] at CV
    obtain ⟨n, hn⟩ : ∃ n, xl.length = n := ⟨_, rfl⟩
    rw [hn] at CT ⊢
    have q2 := i2.cell
    have q3 := i3.cell
    have hfin : ∀ W4 : World, Below W.heap.size W W4 → KeepsOthers W W4 ∧ SoI w w.heap.size (w.heap.size + 1) (w.heap.size + 1 + 1) A c C () (pre ++ [(⟨xA, xc, xl⟩ : Wd)]) W4 := fun W4 hb => ⟨KeepsOthers.of_below hb, SoI.below (C := C) (pre := pre) ⟨i1, i2, i3, i4⟩ hb⟩
    have HFIN := Lib.hid hfin
    clear hval htl hfin i1 i2 i3 i4 hwo hwi hwl hmem hpm hn hcl hwn
    gi_upto_region 3 with fail
    refine wpIn_list_of (by kernel_rfl) (by rintro ⟨a, w, h⟩; exact h) ?_
    go_wp2_with fail
    refine CT.out.mono ?_
    rintro e w4 ⟨rfl, hb4⟩
    have HB4 := Lib.hid hb4
    clear hb4 CT q2 q3
    go_wp2_with fail
    refine (CV.out _).mono ?_
    rintro e w5 ⟨rfl, hb5⟩
    have HB5 := Lib.hid (HB4.out.trans (hb5.mono HB4.out.size))
    clear hb5 CV
    go_wp2_with fail
    gi_wp2
    exact HFIN.out _ HB5.out
  case done =>
    rintro D σ xs W hD hS ⟨h1, h2, h3, h4⟩ hK
    have q4 := h4.cell
    have f4 := h4.frozen
    have hg := grownBy_putObj' (W.setCell ⟨w.heap.size + 1 + 1, 0, none⟩ (.bool true)) D (.deferred none)
    have hKW : (W.setCell ⟨w.heap.size + 1 + 1, 0, none⟩ (.bool true)).heap[D]? = some (.deferred (some [])) := (KeepsOthers.setCell W ⟨w.heap.size + 1 + 1, 0, none⟩ (.bool true)).same _ _ hK rfl
    have hb := h1.setCell (p := ⟨w.heap.size + 1 + 1, 0, none⟩) (by show w.heap.size ≤ w.heap.size + 1 + 1; omega) (.bool true)
    have HF := Lib.hid (hb.grown hg hb.size (fun k e => by cases e; exact Nat.le_trans H0.out.1.size hD))
    have HLT4 : Hid (w.heap.size + 1 + 1 < D) := Lib.hid (Nat.lt_of_lt_of_le H0.out.2.2.2.lt hD)
    have HR4 := Lib.hid (h4.set_ 0 (.bool true))
    clear h1 h2 h3 h4 hg hb
    gi_wp2
    go_wp2_with fail
    refine ⟨by simp, .inl ⟨_, _, rfl, run_takeDeferred hKW, ?_⟩⟩
    have hc4 : ((W.setCell ⟨w.heap.size + 1 + 1, 0, none⟩ (.bool true)).putObj D (.deferred none)).cell? ⟨w.heap.size + 1 + 1, 0, none⟩ = some (.bool true) := by
      rw [World.cell?_of_block (w := W.setCell ⟨w.heap.size + 1 + 1, 0, none⟩ (.bool true)) (a := ⟨w.heap.size + 1 + 1, 0, none⟩) (World.putObj_heap_other (by have := HLT4.out; show w.heap.size + 1 + 1 ≠ D; omega)), HR4.out.cell]
      rfl
    refine ⟨.bool true, ?_, rfl, HF.out⟩
    simp [results, Tryz.f47, go_sem, hc4]
set_option maxHeartbeats 2000000 in
theorem pvalid_ok (C : List Nat) (w : World) (hc : SecOk C) :
    Calls Tryz.prog 21 #[.string (natS C), .int .i64 0] w fun e w' => e = .returned (.bool true) ∧ Below w.heap.size w w' := by
  have HC := Lib.hid hc
  have CF := Lib.hid (first_one w)
  have hsz : (natS C).size = 2352 := by rw [natS_size, hc.len]
  have hcv := run_bytes_of_string (P := Tryz.prog) w 9 75 5 (natS C) Tryz.underlying9 Tryz.underlying75 Tryz.underlying5
  rw [hsz] at hcv
  generalize grownCap w 2352 0 5 = cap at *
  have hb0 : Below w.heap.size w (World.drew (w.alloc (.cells (bytesRow (natS C) cap) 5 ((bytesRow (natS C) cap).size, (bytesRow (natS C) cap).size + 1)))) := ((Below.refl _ _).alloc (Nat.le_refl _) _).drew
  have hsl : SlAt (World.drew (w.alloc (.cells (bytesRow (natS C) cap) 5 ((bytesRow (natS C) cap).size, (bytesRow (natS C) cap).size + 1)))) (World.drew (w.alloc (.cells (bytesRow (natS C) cap) 5 ((bytesRow (natS C) cap).size, (bytesRow (natS C) cap).size + 1)))).heap.size (some ⟨w.heap.size, 0, none⟩) (natV C) := by
    have h9 := bytes_slat (BytesAt.new w 5 (natS C) cap)
    rw [sN_natS hc.b8] at h9
    exact h9
  have CS := Lib.hid (sound_ok C (some ⟨w.heap.size, 0, none⟩) cap _ hsl hc)
  have HB0 := Lib.hid hb0
  clear hc hsl hb0
  go_enter Tryz.func21, Tryz.ntmps21
  go_wp2_with fail
  refine CF.out.mono ?_
  rintro e w1 ⟨rfl, rfl⟩
  go_wp2_with fail
  refine CS.out.mono ?_
  rintro e w2 ⟨rfl, hb2⟩
  have HB2 := Lib.hid (HB0.out.trans (hb2.mono HB0.out.size))
  clear hb2 CS
  go_wp2_with fail
  go_ret
  exact ⟨rfl, HB2.out⟩
end Go.Proofs.YtlnjphggfbiabaaGreat
