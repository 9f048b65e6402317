/-
  circ.Decode: the walk.
-/
import Derived.Test.YtlnjphggfbiabaaGreatMEd
import Derived.Deep.CutRange
namespace Go.Proofs.YtlnjphggfbiabaaGreat
open Go.RowKit
set_option linter.unusedVariables false

theorem run_mkstr {t : TypeId} (ht : Tryz.prog.underlying t = some (.slice 9)) (n : Nat) (hn : n ≤ 10000) (w : World) : (Instr.makeSlice t (.int .i64 (n : Int)) (.int .i64 (n : Int))).run Tryz.prog w = .ok (.slice (some ⟨w.heap.size, 0, none⟩) n n) (w.alloc (.cells (strV (List.replicate n ⟨#[]⟩)).toArray 9)) := by
  obtain ⟨i, hi, hz, hs, hb⟩ := info_parts info_string
  have := run_makeSlice (w := w) t 9 i _ ht hi hz .i64 .i64 (n : Int) (n : Int) (by omega) (by omega) (by rw [hs]; omega) (by rw [hb]; omega) (by omega)
  rw [hs] at this
  rw [this]
  have e : madeCells (Value.string ⟨#[]⟩).cells ((n : Int).toNat * 1) = (strV (List.replicate n ⟨#[]⟩)).toArray := by
    apply Array.ext'
    rw [show (Value.string ⟨#[]⟩).cells = #[Value.string ⟨#[]⟩] from rfl, toList_madeCells_one]
    simp [strV]
  rw [e]
  simp
theorem SlAt.strAddr {w : World} {B : Nat} {A : Option Addr} {l : List ByteArray} (h : SlAt w B A (strV l)) (hp : 0 < l.length) : ∃ b off, A = some ⟨b, off, none⟩ ∧ b < B := by
  obtain ⟨b, off, hA, hb, _⟩ := SlAt.one h (by rw [strV_length]; exact hp)
  exact ⟨b, off, hA, hb⟩
theorem SlAt.str {w : World} {B : Nat} {A : Option Addr} {l : List ByteArray} (h : SlAt w B A (strV l)) {b off : Nat} (hA : A = some ⟨b, off, none⟩) {k : Nat} {x : ByteArray} (hk : l[k]? = some x) : w.cell? ⟨b, off + k, none⟩ = some (.string x) := by
  obtain ⟨b', off', e, _, hc⟩ := h k _ (strV_get hk)
  rw [hA] at e
  injection e with e
  injection e with e1 e2 _
  subst e1 e2
  exact hc
theorem SlAt.set_far {w : World} {B b off : Nat} {xs : List Value} (h : SlAt w B (some ⟨b, off, none⟩) xs) {g j : Nat} (hne : b ≠ g) (v : Value) : SlAt (w.setCell ⟨g, j, none⟩ v) B (some ⟨b, off, none⟩) xs := fun k u hu => by
  obtain ⟨b', off', e, hb, hc⟩ := h k u hu
  injection e with e
  injection e with e1 e2 _
  subst e1 e2
  exact ⟨b, off, rfl, hb, (World.cell?_of_block (Below.heap_setCell w ⟨g, j, none⟩ v b hne)).trans hc⟩
def z28 : List Nat := List.replicate 28 0
/-- What Decode answers. -/
def CdRes (D : List Nat) (L : List ByteArray) (n : Nat) (w : World) (e : Ending) (w' : World) : Prop :=
  Below w.heap.size w w' ∧ ∃ A c, e = .returned (.tuple #[.string (natS (outK D L n)), .slice A (lsK L n).length c, .int .i64 0]) ∧ SlAt w' w'.heap.size A (posV (lsK L n))
set_option maxRecDepth 100000 in
set_option maxHeartbeats 8000000 in
theorem circdec_any (D : List Nat) (L : List ByteArray) (n : Nat) (A : Option Addr) (c0 : Nat) (w : World) (h : SlAt w w.heap.size A (strV L)) (hD : D.length = 24 * n) (h8 : B8 D) (hL : FrOk D n L) (h1 : 1 ≤ n) (h2 : n ≤ 784) :
    Calls Tryz.prog 14 #[.slice A L.length c0] w (CdRes D L n w) := by
  have HS := Lib.hid h
  have HD := Lib.hid hD
  have H8 := Lib.hid h8
  have HL := Lib.hid hL
  obtain ⟨N, hN⟩ : ∃ N, n + 108 = N := ⟨_, rfl⟩
  have HN := Lib.hid hN
  rw [hL.1, hN]
  obtain ⟨b0, o0, hA0, hb0⟩ := h.strAddr (by rw [hL.1]; omega)
  subst hA0
  have c1 : (N : Int) - 108 = (n : Int) := by omega
  have c2 : ¬ (n : Int) < 1 := by omega
  have c3 : ¬ (784 : Int) < (n : Int) := by omega
  have hmk := fun w' => run_mkstr Tryz.underlying37 N (by omega) w'
  clear h hD h8 hL hN
  go_enter Tryz.func14, Tryz.ntmps14
  go_wp2_with fail
  go_loopw [36] (fun i wr => ∃ k : Nat, k ≤ N ∧ i = .int .i64 (k : Int) ∧ St w wr [(w.heap.size + 1, 37, #[.slice (some ⟨w.heap.size, 0, none⟩) N N]), (w.heap.size, 9, (strV (rowsR L D n k)).toArray)]) (fun i _ => N - (intOf i).toNat)
  case atStart =>
    refine ⟨0, by omega, rfl, ?_⟩
    rw [rowsR_zero, HN.out]
    exact ((St.start w).alloc (strV (List.replicate N ⟨#[]⟩)).toArray 9).new (by simp) #[.slice (some ⟨w.heap.size, 0, none⟩) N N] 37
  case round =>
    obtain ⟨k, hk, rfl, hst⟩ := hrel
    have HST := Lib.hid hst
    by_cases hkn : k < N
    · have hkI : (k : Int) < (N : Int) := by omega
      have h0k : (0 : Int) ≤ (k : Int) := by omega
      have hkn2 : k < n + 108 := by rw [HN.out]; exact hkn
      have HKN2 := Lib.hid hkn2
      cases hg : goneB L k with
      | true =>
        have q1 := (HS.out.below hst.bel).str rfl (gone_get (by rw [HL.out.1]; exact hkn2) hg)
        have HE := Lib.hid (rowsR_gone (D := D) (n := n) hg)
        clear hst hkn2 hg
        go_wp2_with fail
        go_roundw
        case rel =>
          have h9 := HST.out
          rw [← HE.out] at h9
          exact ⟨k + 1, by omega, by go_num, h9⟩
        case measure => simp [intOf]; omega
      | false =>
        have hfr := HL.out.2 k hkn2 hg
        have q1 := (HS.out.below hst.bel).str rfl hfr
        have HE := Lib.hid (rowsR_here (D := D) hg hkn2)
        obtain ⟨hdeg, nn, hdec⟩ := dec_fix (frame_dec (n := n) H8.out k)
        have hfs := frame_size H8.out n k
        have CD := Lib.hid (decode_any (frameN D n k) 4 none 0 [] wr (SlAt.nil _ _ _) { le := by omega, p1 := by decide, p2 := by decide, ps := by omega, lt := fun a ha => (List.not_mem_nil ha).elim, inc := List.Pairwise.nil, few := by decide } (fun _ _ => hdeg))
        rw [hdec] at CD
        unfold decV at CD
        have HFS : Hid ((natS (rsEnc (rowN D n k) 4)).extract 0 28 = natS (rowN D n k)) := Lib.hid (frame_row H8.out n k)
        have hsz2 : (natS (rsEnc (rowN D n k) 4)).size = 32 := hfs
        have HC : Hid (∀ w' : World, St w w' [(w.heap.size + 1, 37, #[.slice (some ⟨w.heap.size, 0, none⟩) N N]), (w.heap.size, 9, (strV (rowsR L D n k)).toArray)] → w'.cell? ⟨w.heap.size + 1, 0, none⟩ = some (.slice (some ⟨w.heap.size, 0, none⟩) N N) ∧ (∃ y, w'.cell? ⟨w.heap.size, k, none⟩ = some (.string y)) ∧ w'.frozen? ⟨w.heap.size, k, none⟩ = false) := Lib.hid (fun w' h => by
          refine ⟨(h.at (i := 0) rfl).cell 0, ?_, (h.at (i := 1) rfl).frozen k⟩
          have hl : k < (rowsR L D n k).length := by rw [rowsR_length]; exact HKN2.out
          exact ⟨_, by rw [(h.at (i := 1) rfl).cell, List.getElem?_toArray]; exact strV_get (List.getElem?_eq_getElem hl)⟩)
        generalize frameN D n k = X at *
        generalize natS (rsEnc (rowN D n k) 4) = X2 at *
        clear hst hkn2 hg hfr hdeg hdec
        go_wp2_with fail
        refine CD.out.mono ?_
        rintro e w2 ⟨rfl, hb2⟩
        have HST2 := Lib.hid (St.call hb2 HST.out)
        clear hb2 CD
        go_wp2_with fail
        refine wp_region_any (by kernel_rfl) (wpAny_of_Z (S := fun w' => St w w' [(w.heap.size + 1, 37, #[.slice (some ⟨w.heap.size, 0, none⟩) N N]), (w.heap.size, 9, (strV (rowsR L D n k)).toArray)]) (z := 5) _ _ _ _ ?_)
        have hHeld := HST2.out.drew
        change wpAnyZ _ _ _ _ _ _ _ _ _ (World.drew _)
        refine wpAnyZ_take (i := 0) (oi := ?o1) (v := ?v1) ?hi1 (by kernel_rfl) (by kernel_rfl) (by kernel_rfl) (by kernel_rfl) ?hq1 ?hy1 (by assumption) ?hr1
        case hi1 => (simp only [List.getElem?_toArray, List.getElem?_cons_zero]; rfl)
        case hy1 => ((refine .inl ⟨by rfl, ?_⟩); intro w hS; have qc := (HC.out _ hS).1; go_simp; (try with_reducible rfl))
        case hq1 => exact fun _ _ _ h => h
        (try simp only [Act.put, List.setIfInBounds_toArray, List.set_cons_zero, List.set_cons_succ])
        refine wpAnyZ_take (i := 1) (oi := ?o2) (v := ?v2) ?hi2 (by kernel_rfl) (by kernel_rfl) (by kernel_rfl) (by kernel_rfl) ?hq2 ?hy2 (by assumption) ?hr2
        case hi2 => (simp only [List.getElem?_toArray, List.getElem?_cons_succ, List.getElem?_cons_zero]; rfl)
        case hy2 => ((refine .inl ⟨by rfl, ?_⟩); intro w hS; go_simp; (try with_reducible rfl))
        case hq2 => exact fun _ _ _ h => h
        (try simp only [Act.put, List.setIfInBounds_toArray, List.set_cons_zero, List.set_cons_succ])
        refine wpAnyZ_take (i := 2) (oi := ?o3) (v := ?v3) ?hi3 (by kernel_rfl) (by kernel_rfl) (by kernel_rfl) (by kernel_rfl) ?hq3 ?hy3 (by assumption) ?hr3
        case hi3 => (simp only [List.getElem?_toArray, List.getElem?_cons_succ, List.getElem?_cons_zero]; rfl)
        case hy3 => ((refine .inl ⟨by rfl, ?_⟩); intro w hS; go_simp; (try with_reducible rfl))
        case hq3 => exact fun _ _ _ h => h
        (try simp only [Act.put, List.setIfInBounds_toArray, List.set_cons_zero, List.set_cons_succ])
        refine wpAnyZ_take (i := 3) (oi := ?o4) (v := ?v4) ?hi4 (by kernel_rfl) (by kernel_rfl) (by kernel_rfl) (by kernel_rfl) ?hq4 ?hy4 (by assumption) ?hr4
        case hi4 => (simp only [List.getElem?_toArray, List.getElem?_cons_succ, List.getElem?_cons_zero]; rfl)
        case hy4 => ((refine .inl ⟨by rfl, ?_⟩); intro w hS; go_simp; (try with_reducible rfl))
        case hq4 => exact fun _ _ _ h => h
        (try simp only [Act.put, List.setIfInBounds_toArray, List.set_cons_zero, List.set_cons_succ])
        refine wpAnyZ_take (i := 4) (oi := ?o5) (v := ?v5) ?hi5 (by kernel_rfl) (by kernel_rfl) (by kernel_rfl) (by kernel_rfl) ?hq5 ?hy5 (by assumption) ?hr5
        case hi5 => (simp only [List.getElem?_toArray, List.getElem?_cons_succ, List.getElem?_cons_zero]; rfl)
        case hy5 => ((refine .inl ⟨by rfl, ?_⟩); intro w hS; go_simp; (try with_reducible rfl))
        case hq5 => exact fun _ _ _ h => h
        (try simp only [Act.put, List.setIfInBounds_toArray, List.set_cons_zero, List.set_cons_succ])
        refine wpAnyZ_last (by kernel_rfl) rfl (fun K hK => ?_)
        have HHB := Lib.hid hHeld; obtain ⟨qc0, ⟨y, qc⟩, fc⟩ := HC.out _ hHeld; go_simp
        refine hK.out _ _ ?_
        clear hK K
        (try simp only [Act.put])
        refine wpAnyZ_done (by kernel_rfl) ?_ _
        go_wp2_with fail
        go_roundw
        case rel =>
          have h9 := (HST2.out.set 1 rfl k (.string (natS (rowN D n k)))).drew
          have e9 : (strV (rowsR L D n k)).toArray.setIfInBounds k (.string (natS (rowN D n k))) = (strV (rowsR L D n (k + 1))).toArray := by
            rw [HE.out, ← strV_set, List.setIfInBounds_toArray]
          rw [e9, ← HFS.out] at h9
          exact ⟨k + 1, by omega, by go_num, h9⟩
        case measure => simp [intOf]; omega
    · obtain rfl : k = N := by omega
      have hkI : ¬ (k : Int) < (k : Int) := by omega
      clear hst
      go_wp2_with fail
      obtain ⟨B, hB⟩ : ∃ B, wr.heap.size = B := ⟨_, rfl⟩
      have HB0 : Hid (w.heap.size + 1 < B) := Lib.hid (by rw [← hB]; exact HST.out.lt (i := 0) rfl)
      have HBB := Lib.hid hB
      clear hB
      go_loopw [12, 13, 62] (fun x y i wx => ∃ (f : Nat) (Ad : Option Addr) (cd : Nat) (Al : Option Addr) (cl : Nat), f ≤ n ∧ i = .int .i64 (f : Int) ∧ x = .slice Ad (24 * f) cd ∧ y = .slice Al (lsK L f).length cl ∧ wx.ownsRow B 5 1 (.slice Ad (24 * f) cd) (24 * f) (natV (outK D L f)) ∧ wx.ownsRow B 3 1 (.slice Al (lsK L f).length cl) (lsK L f).length (posV (lsK L f)) ∧ St w wx [(w.heap.size + 1, 37, #[.slice (some ⟨w.heap.size, 0, none⟩) k k]), (w.heap.size, 9, (strV (rowsR L D n k)).toArray)] ∧ B ≤ wx.heap.size ∧ (lsK L f).length ≤ 28 * f) (fun _ _ i _ => n - (intOf i).toNat)
      case atStart => exact ⟨0, none, 0, none, 0, by omega, rfl, rfl, rfl, World.ownsRow_nil _ _ _ _, World.ownsRow_nil _ _ _ _, HST.out, by rw [HBB.out]; exact Nat.le_refl _, Nat.le_refl _⟩
      case round =>
        clear HST
        obtain ⟨f, Ad, cd, Al, cl, hf, rfl, rfl, rfl, hod, hol, hst, hBx, hll⟩ := hrel
        have HOD := Lib.hid hod
        have HOL := Lib.hid hol
        have HST := Lib.hid hst
        have HBX := Lib.hid hBx
        have HLL := Lib.hid hll
        clear hod hol hst hBx
        by_cases hfn : f < n
        · have hfI : (f : Int) < (n : Int) := by omega
          have h0f : (0 : Int) ≤ (f : Int) := by omega
          obtain ⟨H, hH⟩ : ∃ H, wr.heap.size = H := ⟨_, rfl⟩
          have hmk8 : ∀ w', (Instr.makeSlice 75 (.int .i64 28) (.int .i64 28)).run Tryz.prog w' = .ok (.slice (some ⟨w'.heap.size, 0, none⟩) 28 28) (w'.alloc (.cells (natV z28).toArray 5)) := fun w' => by
            have h9 := run_mk8 Tryz.underlying75 28 (by omega) w'
            have e9 : madeCells #[Value.int .u8 0] 28 = (natV z28).toArray := by
              apply Array.ext'
              rw [toList_madeCells_one, natV_zeros]
              rfl
            rw [e9] at h9
            exact h9
          have hs0 := ((((St.start wr).alloc (natV z28).toArray 5).new (g := wr.heap.size + 1) (by simp) #[.slice (some ⟨wr.heap.size, 0, none⟩) 28 28] 75).new (g := wr.heap.size + 1 + 1) (by simp) #[.slice none 0 0] 29)
          have ez : wdK D L f 0 = z28 := wdK_zero D L f
          rw [← ez] at hs0
          have HS0 := Lib.hid hs0
          have HCOL := Lib.hid (collect_dec1 f (w.heap.size + 1) (wr.heap.size + 1 + 1) (wr.heap.size + 1) (((wr.alloc (.cells (natV (wdK D L f 0)).toArray 5)).alloc (.cells #[.slice (some ⟨wr.heap.size, 0, none⟩) 28 28] 75)).alloc (.cells #[.slice none 0 0] 29))
            (fun i W => ∃ A c, St wr W [(wr.heap.size + 1 + 1, 29, #[.slice A (erK L f i).length c]), (wr.heap.size + 1, 75, #[.slice (some ⟨wr.heap.size, 0, none⟩) 28 28]), (wr.heap.size, 5, (natV (wdK D L f i)).toArray)] ∧ W.ownsRow (wr.heap.size + 3) 3 1 (.slice A (erK L f i).length c) (erK L f i).length (posV (erK L f i)) ∧ wr.heap.size + 3 ≤ W.heap.size)
            ⟨none, 0, hs0, World.ownsRow_nil _ _ _ _, by simp⟩ (by omega) (fun i W hi hI => by
              obtain ⟨A, c, hsW, hoW, hbW⟩ := hI
              have hbel := hsW.bel
              have r1 := (HST.out.at (i := 0) rfl).below hbel (HST.out.lt (i := 0) rfl)
              have r2 := (HST.out.at (i := 1) rfl).below hbel (HST.out.lt (i := 1) rfl)
              have hfr : f + 4 * i < n + 108 := by omega
              have hrg := rowsR_get (L := L) (D := D) hfr
              rw [HN.out] at hrg hfr
              cases hg : goneB L (f + 4 * i) with
              | true =>
                rw [hg] at hrg
                refine (dec1_gone i (f + 4 * i) (w.heap.size + 1) w.heap.size (wr.heap.size + 1 + 1) k (wr.heap.size + 3) _ (rowsR L D n k) (erK L f i) A c wr W _ r1 r2 hsW hoW (by
                  intro r hr
                  simp only [List.mem_cons, List.not_mem_nil, or_false] at hr
                  rcases hr with rfl | rfl | rfl
                  · show wr.heap.size + 1 + 1 < _; omega
                  · show wr.heap.size + 1 < _; omega
                  · show wr.heap.size < _; omega) (by omega) hbW hrg hfr hi (by have := erK_len L f i; omega)).mono ?_
                rintro e w' ⟨rfl, A', c', hs', ho', hb'⟩
                rw [erK_gone hg, wdK_gone hg]
                exact ⟨rfl, A', c', hs', ho', Nat.le_trans hbW hb'⟩
              | false =>
                rw [hg] at hrg
                refine (dec1_here i (f + 4 * i) (w.heap.size + 1) w.heap.size (wr.heap.size + 1 + 1) (wr.heap.size + 1) wr.heap.size k (rowsR L D n k) (wdK D L f i) (natS (rowN D n (f + 4 * i))) W r1 r2 (hsW.at (i := 1) rfl) (hsW.at (i := 2) rfl) hrg (by rw [natS_size, rowN_length]; exact hi) hfr hi (wdK_length _ _ _ _)).mono ?_
                rintro e w' ⟨rfl, W', hb', rfl⟩
                rw [sN_natS (rowN_b8 H8.out n _), row_word D n f i hfn hi, erK_here hg, wdK_here hg hi]
                refine ⟨rfl, A, c, ?_, own_set (own_all hoW hb') (by omega), by rw [World.size_setCell]; exact Nat.le_trans hbW hb'.size⟩
                have h9 := (St.call hb' hsW).set 2 rfl i (.int .u8 (((wordN D f)[i]?.getD 0 : Nat) : Int))
                rw [← natV_set]
                rw [List.setIfInBounds_toArray] at h9
                exact h9))
          rw [ez] at HCOL
          rw [hH] at HCOL
          clear hs0 HS0 ez
          go_wp2_with fail
          refine HCOL.out.mono ?_
          rintro e w3 ⟨rfl, A3, c3, hst3, hown3, hsz3⟩
          have HST3 := Lib.hid hst3
          have HOW3 := Lib.hid hown3
          have HSZ3 := Lib.hid hsz3
          have hbel3 := hst3.bel
          have HB3 := Lib.hid hbel3
          have q3 := (hst3.at (i := 0) rfl).cell
          have q4 := (hst3.at (i := 1) rfl).cell
          have hel := erK_len L f 28
          have hei := erK_inc L f 28
          have hlt3 : ∀ a ∈ erK L f 28, a < 28 := fun a ha => (erK_mem.1 ha).1
          have HEL := Lib.hid hei
          have HLT := Lib.hid hlt3
          by_cases h4 : (erK L f 28).length ≤ 4
          · have HWD := Lib.hid (word_dec HD.out H8.out hfn h4)
            have HOF : Hid (outK D L (f + 1) = outK D L f ++ (wordN D f).take 24) := Lib.hid (by rw [outK_succ]; unfold outF; rw [if_pos h4])
            have HLF : Hid (lsK L (f + 1) = lsK L f) := Lib.hid (by rw [lsK_succ]; unfold lsF; rw [if_pos h4, List.append_nil])
            have hcv := run_str_at Tryz.underlying75 Tryz.underlying5 Tryz.underlying9 (w := w3) (b := H) (off := 0) 28 (wdK D L f 28) (wdK_b8 H8.out L f 28) (fun j x hx => by
              rw [(hst3.at (i := 2) rfl).cell, List.getElem?_toArray, Nat.zero_add]
              exact natV_get hx) 28 (wdK_length _ _ _ _)
            obtain ⟨hdeg, nn, hdec⟩ := dec_fix HWD.out
            have hws : (natS (wdK D L f 28)).size = 28 := by rw [natS_size, wdK_length]
            have CD := Lib.hid (decode_any (natS (wdK D L f 28)) 4 A3 c3 (erK L f 28) w3 (SlAt.of_own' hown3 (Nat.le_refl _)) { le := by omega, p1 := by decide, p2 := by decide, ps := by omega, lt := by rw [hws]; exact hlt3, inc := hei, few := by omega } (fun _ _ => hdeg))
            rw [hdec] at CD
            unfold decV at CD
            rw [show ((0 : Nat) : Int) = 0 from rfl] at CD
            obtain ⟨m, hm⟩ : ∃ m, (erK L f 28).length = m := ⟨_, rfl⟩
            rw [hm] at h4 CD q3
            have h4I : (m : Int) ≤ 4 := by omega
            clear hst3 hown3 hsz3 hbel3 hel hei hlt3 HCOL hdec hdeg hm hws
            go_wp2_with fail
            refine CD.out.mono ?_
            rintro e w4 ⟨rfl, hb4⟩
            have HB4 := Lib.hid hb4
            have HST4 := Lib.hid (St.call hb4 HST3.out)
            have f4 := (HST4.out.at (i := 0) rfl).frozen
            have f5 := (HST4.out.at (i := 1) rfl).frozen
            have q5 := (HST4.out.at (i := 0) rfl).cell
            have q6 := (HST4.out.at (i := 1) rfl).cell
            have hlt5 : H + 1 + 1 < w4.heap.size := HST4.out.lt (i := 0) rfl
            have hlt6 : H + 1 < w4.heap.size := HST4.out.lt (i := 1) rfl
            have hwl : (natS (wordN D f)).size = 28 := by rw [natS_size, wordN_length HD.out hfn H8.out]
            have hcv2 := run_bytes_of_string (P := Tryz.prog) (w4.setCell ⟨H + 1 + 1, 0, none⟩ (.slice none 0 0)) 9 75 5 (natS (wordN D f)) Tryz.underlying9 Tryz.underlying75 Tryz.underlying5
            have hcap := grownCap_ge (w4.setCell ⟨H + 1 + 1, 0, none⟩ (.slice none 0 0)) (natS (wordN D f)).size 0 5
            rw [hwl] at hcv2 hcap
            generalize grownCap (w4.setCell ⟨H + 1 + 1, 0, none⟩ (.slice none 0 0)) 28 0 5 = cap at *
            clear hb4 CD hcv q3 q4 hwl
            have HBY : Hid (SlAt (((w4.setCell ⟨H + 1 + 1, 0, none⟩ (.slice none 0 0)).setCell ⟨H + 1, 0, none⟩ (.slice (some ⟨w4.heap.size, 0, none⟩) 28 cap)).alloc (.cells (bytesRow (natS (wordN D f)) cap) 5 ((bytesRow (natS (wordN D f)) cap).size, (bytesRow (natS (wordN D f)) cap).size + 1))).drew (w4.heap.size + 1) (some ⟨w4.heap.size, 0, none⟩) (natV (wordN D f))) := Lib.hid (by
              have h9 := bytes_slat (BytesAt.new ((w4.setCell ⟨H + 1 + 1, 0, none⟩ (.slice none 0 0)).setCell ⟨H + 1, 0, none⟩ (.slice (some ⟨w4.heap.size, 0, none⟩) 28 cap)) 5 (natS (wordN D f)) cap)
              rw [sN_natS (wordN_b8 H8.out f)] at h9
              simp only [World.size_alloc, World.size_setCell] at h9
              exact h9)
            have HST5 := Lib.hid (((HST4.out.set 0 rfl 0 (.slice none 0 0)).set 1 rfl 0 (.slice (some ⟨w4.heap.size, 0, none⟩) 28 cap)).other (.cells (bytesRow (natS (wordN D f)) cap) 5 ((bytesRow (natS (wordN D f)) cap).size, (bytesRow (natS (wordN D f)) cap).size + 1))).drew
            go_wp2_with fail
            go_loopw [13, 90] (fun y i wx => i = .int .i64 0 ∧ y = .slice Al (lsK L f).length cl ∧ Below wr.heap.size wr wx ∧ (wx.cell? ⟨H + 1, 0, none⟩ = some (.slice (some ⟨w4.heap.size, 0, none⟩) 28 cap)) ∧ SlAt wx (w4.heap.size + 1) (some ⟨w4.heap.size, 0, none⟩) (natV (wordN D f))) (fun _ _ _ => 0)
            case atStart =>
              exact ⟨rfl, rfl, HST5.out.bel, (HST5.out.at (i := 1) rfl).cell 0, HBY.out⟩
            case round =>
              obtain ⟨rfl, rfl, hbe5, q7, hsl⟩ := hrel
              have HBE5 := Lib.hid hbe5
              have HSL := Lib.hid hsl
              have HOD5 := Lib.hid (own_all HOD.out hbe5)
              have HOL5 := Lib.hid (own_all HOL.out hbe5)
              have HSW5 := Lib.hid (St.call hbe5 HST.out)
              have hbx5 := Nat.le_trans HBX.out hbe5.size
              have HT24 : Hid (((wordN D f).take 24).length = 24) := Lib.hid (by rw [List.length_take, wordN_length HD.out hfn H8.out]; rfl)
              clear HST5 HBY hbe5 hsl f4 f5 q5 q6 hcv2
              go_wp2_with (at_builtin; refine wpList_appX (s := .tmp 104) (x := .tmp 106) (m := 24) (news := natV ((wordN D f).take 24)) HOD5.out info_byte Tryz.underlying75 rfl (by decide) (by rw [natV_length, HT24.out]) (by rw [natV_take]; exact slat_take HSL.out 24) (natV_one _) (by unfold maxLen; omega) (by omega) hbx5 rfl rfl (by rfl) (by rfl) ?_; intro v6 w6 hown6 hg6 hv6; have HSW6 := Lib.hid (HSW5.out.grown_own HOD5.out hg6 (by have := HB0.out; omega) (by intro r hr; have := HB0.out; exact (List.mem_cons.1 hr).elim (fun e => by rw [e]; exact this) (fun e => by rw [List.mem_singleton.1 e]; show w.heap.size < B; omega))); have HOL6 := Lib.hid (own_grown HOL5.out hg6 (fun k hk e => own_ne HOD5.out HOL5.out (by decide) k e.symm hk.symm)); obtain ⟨A6, c6, hv6'⟩ := own_slice hown6; subst hv6'; have HOD6 := Lib.hid hown6; have HS6 := Lib.hid (Nat.le_trans hbx5 hg6.size); clear hown6 hg6 hv6)
              go_roundw
              case rel =>
                have h9 := HOD6.out
                rw [← natV_append, ← HOF.out, show 24 * f + 24 = 24 * (f + 1) by omega] at h9
                have h10 := HOL6.out
                rw [← HLF.out] at h10
                exact ⟨f + 1, A6, c6, Al, cl, by omega, by first | go_num | (congr 1; show (f : Int) + 1 = _; omega), by rw [show 24 * (f + 1) = 24 * f + 24 by omega], by rw [HLF.out], h9, h10, HSW6.out, HS6.out, by rw [HLF.out]; have := HLL.out; omega⟩
              case measure => simp [intOf]; omega
          · have HLF : Hid (lsK L (f + 1) = lsK L f ++ ((erK L f 28).filter (· < 24)).map (24 * f + ·)) := Lib.hid (by rw [lsK_succ]; unfold lsF; rw [if_neg h4])
            have HOF : Hid (outK D L (f + 1) = outK D L f ++ (wdK D L f 28).take 24) := Lib.hid (by rw [outK_succ]; unfold outF; rw [if_neg h4])
            have HR1 := Lib.hid (hst3.at (i := 1) rfl)
            have HR2 := Lib.hid (hst3.at (i := 2) rfl)
            have HSW3 := Lib.hid (St.call (show Below wr.heap.size wr w3 from hbel3) HST.out)
            have HOD3 := Lib.hid (own_all HOD.out hbel3)
            have HOL3 := Lib.hid (own_all HOL.out hbel3)
            have hbx3 := Nat.le_trans HBX.out hbel3.size
            have HBX3 := Lib.hid hbx3
            obtain ⟨m, hm⟩ : ∃ m, (erK L f 28).length = m := ⟨_, rfl⟩
            have HM := Lib.hid hm
            have HSP : Hid (∀ b, (Value.slice Al (lsK L f).length cl).ownBlock = some b → (Value.slice A3 (erK L f 28).length c3).ownBlock ≠ some b) := Lib.hid (fun b hb e => by
              have h1 := (HOL.out.lt b hb).2
              have h2 := (hown3.lt b e).1
              omega)
            rw [hm] at h4 q3 HOW3 HSP
            have hm28 : m ≤ 28 := by omega
            have h4I : ¬ (m : Int) ≤ 4 := by omega
            generalize erK L f 28 = er at *
            clear hst3 hown3 hsz3 hbel3 hel hei hlt3 HCOL hm q4 hbx3 HOL HOD
            go_wp2_with fail
            go_loopw [13, 90] (fun y i wx => ∃ (j : Nat) (A2 : Option Addr) (c2 : Nat) (out2 : List Nat), j ≤ m ∧ i = .int .i64 (j : Int) ∧ y = .slice A2 out2.length c2 ∧ Hid (out2 = lsK L f ++ ((er.take j).filter (· < 24)).map (24 * f + ·)) ∧ wx.ownsRow B 3 1 (.slice A2 out2.length c2) out2.length (posV out2) ∧
              Hid (∀ b, (Value.slice A2 out2.length c2).ownBlock = some b → (Value.slice A3 m c3).ownBlock ≠ some b) ∧ wx.ownsRow (H + 3) 3 1 (.slice A3 m c3) m (posV er) ∧ wx.ownsRow B 5 1 (.slice Ad (24 * f) cd) (24 * f) (natV (outK D L f)) ∧ RowAt wx (H + 1) 75 #[.slice (some ⟨H, 0, none⟩) 28 28] ∧ RowAt wx H 5 (natV (wdK D L f 28)).toArray ∧
              St w wx [(w.heap.size + 1, 37, #[.slice (some ⟨w.heap.size, 0, none⟩) k k]), (w.heap.size, 9, (strV (rowsR L D n k)).toArray)] ∧ B ≤ wx.heap.size ∧ out2.length ≤ 28 * f + j) (fun _ i _ => m - (intOf i).toNat)
            case atStart => exact ⟨0, Al, cl, lsK L f, by omega, rfl, rfl, Lib.hid (by simp), HOL3.out, HSP, HOW3.out, HOD3.out, HR1.out, HR2.out, HSW3.out, HBX3.out, by have := HLL.out; omega⟩
            case round =>
              clear HOL3 HSP HOW3 HOD3 HR1 HR2 HSW3 HBX3 q3
              obtain ⟨j, A2, c2, out2, hj, rfl, rfl, HOUT, ho2, HSEP, he2, hd2, hr1, hr2, hsw, hbx2, hn2⟩ := hrel
              have HO2 := Lib.hid ho2
              have HE2 := Lib.hid he2
              have HD2 := Lib.hid hd2
              have HR1 := Lib.hid hr1
              have HR2 := Lib.hid hr2
              have HSW2 := Lib.hid hsw
              have HBX2 := Lib.hid hbx2
              by_cases hjm : j < m
              · obtain ⟨x, hx⟩ : ∃ x, er[j]? = some x := ⟨er[j]'(by rw [HM.out]; exact hjm), List.getElem?_eq_getElem _⟩
                have hse := SlAt.of_own' he2 (Nat.le_refl _)
                obtain ⟨eb, eo, hAe, heb⟩ := hse.posAddr (by rw [HM.out]; omega)
                subst hAe
                have q8 := hse.pos rfl hx
                have hx28 := HLT.out x (List.mem_of_getElem? hx)
                have hjI : (j : Int) < (m : Int) := by omega
                have h0j : (0 : Int) ≤ (j : Int) := by omega
                clear ho2 he2 hd2 hr1 hr2 hsw hse
                by_cases hx24 : x < 24
                · have hxI : (x : Int) < 24 := by omega
                  have HON : Hid (out2 ++ [24 * f + x] = lsK L f ++ ((er.take (j + 1)).filter (· < 24)).map (24 * f + ·)) := Lib.hid (by
                    rw [HOUT.out, List.take_add_one, hx, List.filter_append, List.map_append, List.append_assoc]
                    simp [hx24])
                  have e24 : ((24 * f + x : Nat) : Int) = 24 * (f : Int) + (x : Int) := by omega
                  have HE24 := Lib.hid e24
                  clear e24 hx
                  go_wp2_with (at_builtin; refine wpList_app1D HO2.out info_intp Tryz.underlying29 rfl (by unfold maxLen; omega) (by omega) hbx2 rfl rfl rfl (by rfl) (by rfl) ?_; intro v5 w6 hown6 hb6 hg6 hwh6; have HE6 := Lib.hid (own_grown HE2.out hg6 (fun k hk e' => HSEP.out k e'.symm hk)); have HD6 := Lib.hid (own_grown HD2.out hg6 (fun k hk e => own_ne HO2.out HD2.out (by decide) k e.symm hk.symm)); have HR16 := Lib.hid (HR1.out.grown hg6 (fun e' => own_row_ne HO2.out HR1.out (by decide) _ e'.symm rfl)); have HR26 := Lib.hid (HR2.out.grown hg6 (fun e' => own_row_ne HO2.out HR2.out (by decide) _ e'.symm rfl)); have HSW6 := Lib.hid (HSW2.out.grown_own HO2.out hg6 (by have := HB0.out; omega) (by intro r hr; have := HB0.out; exact (List.mem_cons.1 hr).elim (fun e => by rw [e]; exact this) (fun e => by rw [List.mem_singleton.1 e]; show w.heap.size < B; omega))); have HSEP6 : Hid (∀ b, v5.ownBlock = some b → (Value.slice (some ⟨eb, eo, none⟩) m c3).ownBlock ≠ some b) := Lib.hid (fun b hb e' => hwh6.elim (fun h6 => HSEP.out b (h6.symm.trans hb) e') (fun h6 => by have h7 := h6 b hb; have h8 := (HE2.out.lt b e').2; omega)); obtain ⟨A6, c6, hv6⟩ := own_slice hown6; subst hv6; have HO6 := Lib.hid hown6; have HS6 := Lib.hid (Nat.le_trans hbx2 hb6.size); clear hown6 hb6 hg6 hwh6)
                  have hl6 : (out2 ++ [24 * f + x]).length = out2.length + 1 := by rw [List.length_append]; rfl
                  go_roundw
                  case rel =>
                    refine ⟨j + 1, A6, c6, out2 ++ [24 * f + x], by omega, by go_num, by rw [hl6], HON, ?_, by rw [hl6]; exact HSEP6, HE6.out, HD6.out, HR16.out, HR26.out, HSW6.out, HS6.out, by omega⟩
                    have h9 := HO6.out
                    rw [← HE24.out] at h9
                    rw [hl6, ← posV_snoc]
                    exact h9
                  case measure => simp [intOf]; omega
                · have hxI : ¬ (x : Int) < 24 := by omega
                  have HON : Hid (out2 = lsK L f ++ ((er.take (j + 1)).filter (· < 24)).map (24 * f + ·)) := Lib.hid (by
                    rw [List.take_add_one, hx, List.filter_append, List.map_append]
                    have : ([x].filter (· < 24)) = [] := by simp [hx24]
                    simp only [Option.toList_some]
                    rw [this, List.map_nil, List.append_nil]
                    exact HOUT.out)
                  clear hx hbx2
                  go_wp2_with fail
                  go_roundw
                  case rel => exact ⟨j + 1, A2, c2, out2, by omega, by go_num, rfl, HON, HO2.out, HSEP, HE2.out, HD2.out, HR1.out, HR2.out, HSW2.out, HBX2.out, by omega⟩
                  case measure => simp [intOf]; omega
              · obtain rfl : j = m := by omega
                have hjI : ¬ (j : Int) < (j : Int) := by omega
                have q9 := hr1.cell
                have HSL := Lib.hid (show SlAt wr (wr.heap.size) (some ⟨H, 0, none⟩) (natV (wdK D L f 28)) from fun a u hu => ⟨H, 0, rfl, hr2.lt, by rw [hr2.cell, List.getElem?_toArray, Nat.zero_add]; exact hu⟩)
                have HT24 : Hid (((wdK D L f 28).take 24).length = 24) := Lib.hid (by rw [List.length_take, wdK_length]; rfl)
                have HNEW : Hid (out2 = lsK L (f + 1)) := Lib.hid (by rw [HLF.out, HOUT.out, List.take_of_length_le (by rw [HM.out]; exact Nat.le_refl _)])
                clear ho2 he2 hd2 hr1 hr2 hsw
                go_wp2_with (at_builtin; refine wpList_appX (s := .tmp 104) (x := .tmp 106) (m := 24) (news := natV ((wdK D L f 28).take 24)) HD2.out info_byte Tryz.underlying75 rfl (by decide) (by rw [natV_length, HT24.out]) (by rw [natV_take]; exact slat_take HSL.out 24) (natV_one _) (by unfold maxLen; omega) (by omega) hbx2 rfl rfl (by rfl) (by rfl) ?_; intro v6 w6 hown6 hg6 hv6; have HSW6 := Lib.hid (HSW2.out.grown_own HD2.out hg6 (by have := HB0.out; omega) (by intro r hr; have := HB0.out; exact (List.mem_cons.1 hr).elim (fun e => by rw [e]; exact this) (fun e => by rw [List.mem_singleton.1 e]; show w.heap.size < B; omega))); have HOL6 := Lib.hid (own_grown HO2.out hg6 (fun k hk e => own_ne HD2.out HO2.out (by decide) k e.symm hk.symm)); obtain ⟨A6, c6, hv6'⟩ := own_slice hown6; subst hv6'; have HOD6 := Lib.hid hown6; have HS6 := Lib.hid (Nat.le_trans hbx2 hg6.size); clear hown6 hg6 hv6)
                go_roundw
                case rel =>
                  have h9 := HOD6.out
                  rw [← natV_append, ← HOF.out, show 24 * f + 24 = 24 * (f + 1) by omega] at h9
                  have h10 := HOL6.out
                  rw [HNEW.out] at h10
                  exact ⟨f + 1, A6, c6, A2, c2, by omega, by first | go_num | (congr 1; show (f : Int) + 1 = _; omega), by rw [show 24 * (f + 1) = 24 * f + 24 by omega], by rw [HNEW.out], h9, h10, HSW6.out, HS6.out, by rw [← HNEW.out]; omega⟩
                case measure => simp [intOf]; omega
        · obtain rfl : f = n := by omega
          have hfI : ¬ (f : Int) < (f : Int) := by omega
          obtain ⟨ho1, ho2⟩ := outK_ok (L := L) HD.out H8.out f (Nat.le_refl _)
          have hod := HOD.out
          rw [natV_bytes ho2] at hod
          have hcv := own_string (P := Tryz.prog) wr 75 9 5 Tryz.underlying75 Tryz.underlying5 Tryz.underlying9 hod
          have e9 : (⟨((outK D L f).map UInt8.ofNat).toArray⟩ : ByteArray) = natS (outK D L f) := rfl
          rw [e9] at hcv
          clear hod e9 ho1 ho2
          go_wp2_with fail
          refine bodyPost_ret (v := .tuple #[.string (natS (outK D L f)), .slice Al (lsK L f).length cl, .int .i64 0]) (by simp [results, Tryz.results14, go_sem]) rfl ⟨HST.out.bel, Al, cl, rfl, SlAt.of_own' HOL.out (Nat.le_refl _)⟩
end Go.Proofs.YtlnjphggfbiabaaGreat
