/-
  circ.Encode: the walk.
-/
import Derived.Test.YtlnjphggfbiabaaGreatMEa
import Derived.Test.YtlnjphggfbiabaaGreatMCc
namespace Go.Proofs.YtlnjphggfbiabaaGreat
open Go.RowKit
set_option linter.unusedVariables false

theorem info_t28 : (Tryz.prog.info? 74).map (fun i => (i.zero, i.size, i.bytes)) = some (some (.agg (arrK (fun _ => 0) 28 0)), 28, 28) := by kernel_rfl
theorem run_mk28 {t : TypeId} (ht : Tryz.prog.underlying t = some (.slice 74)) (n : Nat) (hn : n ≤ 10000) (w : World) : (Instr.makeSlice t (.int .i64 (n : Int)) (.int .i64 (n : Int))).run Tryz.prog w = .ok (.slice (some ⟨w.heap.size, 0, none⟩) n n) (w.alloc (.cells (natV (List.replicate (28 * n) 0)).toArray 74)) := by
  obtain ⟨i, hi, hz, hs, hb⟩ := info_parts info_t28
  have := run_makeSlice (w := w) t 74 i _ ht hi hz .i64 .i64 (n : Int) (n : Int) (by omega) (by omega) (by rw [hs]; omega) (by rw [hb]; omega) (by omega)
  rw [hs] at this
  rw [this]
  have e : madeCells (Value.agg (arrK (fun _ => 0) 28 0)).cells ((n : Int).toNat * 28) = (natV (List.replicate (28 * n) 0)).toArray := by
    apply Array.ext (by simp [madeCells, natV]; omega)
    intro j h1 h2
    have hm : j % 28 < 28 := Nat.mod_lt _ (by decide)
    have hg := arrK_get (fun _ => 0) 28 0 (j % 28) hm
    simp only [madeCells, Value.cells, Array.getElem_map, Array.getElem_range, arrK_size]
    rw [getElem!_def, hg]
    simp [natV]
  rw [e]
  simp
theorem sN_extract (s : ByteArray) (a b : Nat) : sN (s.extract a b) = ((sN s).drop a).take (b - a) := by
  unfold sN
  rw [ByteArray.data_extract]
  simp [List.map_take, List.map_drop, Array.toList_extract]
theorem addr_add (b o j : Nat) : (⟨b, o, none⟩ : Addr).add j = ⟨b, o + j, none⟩ := by unfold Addr.add; split <;> simp_all
theorem run_str_at {P : Program} {src dst e : TypeId} (hs : P.underlying src = some (.slice e)) (he : P.underlying e = some (.int .u8)) (hd : P.underlying dst = some .string) {w : World} {b off : Nat} (cap : Nat) (l : List Nat) (h8 : B8 l)
    (hc : ∀ (j x : Nat), l[j]? = some x → w.cell? ⟨b, off + j, none⟩ = some (.int .u8 (x : Int))) (n : Nat) (hn : l.length = n) : (convert src dst (.slice (some ⟨b, off, none⟩) n cap)).run P w = .ok (.string (natS l)) w := by
  have hl : (l.map UInt8.ofNat).length = n := by simp [hn]
  subst hl
  refine run_convert_bytes_back w src dst e ⟨b, off, none⟩ cap (l.map UInt8.ofNat) hs he hd fun j hj => ?_
  have hadd := addr_add b off j
  have hj2 : j < l.length := by simpa using hj
  rw [hadd, hc j l[j] (List.getElem?_eq_getElem hj2)]
  have := h8 _ (List.getElem_mem hj2)
  simp only [List.getElem_map, UInt8.toNat_ofNat']
  rw [Nat.mod_eq_of_lt (by omega)]
theorem rowN_get (D : List Nat) (N k g : Nat) (hg : g < N) (j x : Nat) (h : (rowN D k g)[j]? = some x) : (rowsP D N k 0)[g * 28 + j]? = some x := by
  have hj : j < 28 := by have := (List.getElem?_eq_some_iff.1 h).1; rwa [rowN_length] at this
  unfold rowN at h
  rw [List.getElem?_map, List.getElem?_range hj] at h
  unfold rowsP
  rw [List.getElem?_map, List.getElem?_range (by omega)]
  exact h
theorem encF_get (D : List Nat) (n g : Nat) (h : g < n + 108) : (encF D n)[g]? = some (frameN D n g) := by
  unfold encF
  rw [List.getElem?_map, List.getElem?_range h]
  rfl
set_option maxRecDepth 100000 in
set_option maxHeartbeats 4000000 in
theorem circenc_any (s : ByteArray) (n : Nat) (w : World) (hs : s.size = 24 * n) (h1 : 1 ≤ n) (h2 : n ≤ 784) :
    Calls Tryz.prog 12 #[.string s] w fun e w' => Below w.heap.size w w' ∧ ∃ A c, e = .returned (.tuple #[.slice A (n + 108) c, .int .i64 0]) ∧ w'.ownsRow w.heap.size 9 1 (.slice A (n + 108) c) (n + 108) (strV (encF (sN s) n)) := by
  have CF := Lib.hid (frames_any n w h1 (by omega))
  obtain ⟨N, hNd⟩ : ∃ N, n + 108 = N := ⟨_, rfl⟩
  have HNN := Lib.hid hNd
  rw [hNd] at CF ⊢
  have HS := Lib.hid hs
  have d1 : Int.tdiv (s.size : Int) 24 = (n : Int) := by rw [Int.tdiv_eq_ediv_of_nonneg (by omega)]; omega
  have d2 : Int.tmod (s.size : Int) 24 = 0 := by rw [Int.tmod_eq_emod_of_nonneg (by omega)]; omega
  have hn0 : ((n : Int) == 0) = false := by simp; omega
  have hn1 : ¬ (784 : Int) < (n : Int) := by omega
  have hmk := fun w' => run_mk28 Tryz.underlying73 N (by omega) w'
  clear hs
  go_enter Tryz.func12, Tryz.ntmps12
  go_wp2_with fail
  refine CF.out.mono ?_
  rintro e w1 ⟨rfl, rfl⟩
  go_wp2_with fail
  go_loopw [32] (fun i wr => ∃ k : Nat, k ≤ n ∧ i = .int .i64 (k : Int) ∧ St w wr [(w.heap.size + 1, 73, #[.slice (some ⟨w.heap.size, 0, none⟩) N N]), (w.heap.size, 74, (natV (rowsP (sN s) N k 0)).toArray)]) (fun i _ => n - (intOf i).toNat)
  case atStart =>
    refine ⟨0, by omega, rfl, ?_⟩
    rw [rowsP_zero]
    exact ((St.start w).alloc (natV (List.replicate (28 * N) 0)).toArray 74).new (by simp) #[.slice (some ⟨w.heap.size, 0, none⟩) N N] 73
  case round =>
    obtain ⟨k, hk, rfl, hst⟩ := hrel
    have HST := Lib.hid hst
    by_cases hkn : k < n
    · have hkI : (k : Int) < (n : Int) := by omega
      have h0k : (0 : Int) ≤ (k : Int) := by omega
      clear hst
      have u1 : (24 : Int) * ((k : Int) + 1) ≤ (s.size : Int) := by rw [HS.out]; omega
      have u2 : (24 : Int) * (k : Int) ≤ 24 * ((k : Int) + 1) := by omega
      have hsz : (s.extract (24 * k) (24 * (k + 1))).size = 24 := by rw [ByteArray.size_extract, HS.out]; omega
      have CE := Lib.hid (rsencode_any (s.extract (24 * k) (24 * (k + 1))) 4 wr (Or.inr rfl) (by omega) (by omega))
      have HW : Hid (natS (rsEnc (sN (s.extract (24 * k) (24 * (k + 1)))) 4) = natS (wordN (sN s) k)) := Lib.hid (by rw [sN_extract, show 24 * (k + 1) - 24 * k = 24 by omega]; rfl)
      clear hsz
      rw [HW.out] at CE
      clear HW
      go_wp2_with fail
      refine CE.out.mono ?_
      rintro e w2 ⟨rfl, hb2⟩
      have HST2 := Lib.hid (St.call hb2 HST.out)
      clear hb2 CE
      have HSN := Lib.hid (St.alloc HST2.out #[.string (natS (wordN (sN s) k))] 9)
      have HCOL := Lib.hid (collect_enc k w2.heap.size (w.heap.size + 1) (w2.alloc (.cells #[.string (natS (wordN (sN s) k))] 9))
        (fun i W => St w W [(w2.heap.size, 9, #[.string (natS (wordN (sN s) k))]), (w.heap.size + 1, 73, #[.slice (some ⟨w.heap.size, 0, none⟩) N N]), (w.heap.size, 74, (natV (rowsP (sN s) N k i)).toArray)])
        HSN.out (by omega) (fun i W hi hI => by
          have hwl : (wordN (sN s) k).length = 28 := by
            unfold wordN rsEnc
            rw [List.length_append, remN_length, (genN_len 4).1, List.length_take, List.length_drop, sN_length, HS.out]
            omega
          refine (enc1_any i (k + 4 * i) w2.heap.size (w.heap.size + 1) w.heap.size N (natS (wordN (sN s) k)) (rowsP (sN s) N k i) W (hI.at (i := 0) rfl) (hI.at (i := 1) rfl) (hI.at (i := 2) rfl) (rowsP_length _ _ _ _) (by have := HNN.out; omega) hi (by rw [natS_size, hwl]; exact hi)).mono ?_
          rintro e w' ⟨rfl, W', hb', rfl⟩
          refine ⟨rfl, ?_⟩
          have h3 := (St.call hb' hI).set 2 rfl ((k + 4 * i) * 28 + i) (.int .u8 (((sN (natS (wordN (sN s) k)))[i]?.getD 0 : Nat) : Int))
          rw [sN_natS (wordN_b8 (sN_b8 s) k)] at h3
          rw [sN_natS (wordN_b8 (sN_b8 s) k)]
          have e3 : (natV (rowsP (sN s) N k i)).toArray.setIfInBounds ((k + 4 * i) * 28 + i) (.int .u8 (((wordN (sN s) k)[i]?.getD 0 : Nat) : Int)) = (natV (rowsP (sN s) N k (i + 1))).toArray := by
            rw [← rowsP_set _ _ _ _ hi (by have := HNN.out; omega), ← natV_set, List.setIfInBounds_toArray]
          rw [e3] at h3
          exact h3))
      clear HSN
      go_wp2_with fail
      refine HCOL.out.mono ?_
      rintro e w3 ⟨rfl, h3⟩
      have HST3 := Lib.hid (St.drop1 h3)
      clear h3 HCOL
      go_wp2_with fail
      go_roundw
      case rel =>
        have h9 := HST3.out
        rw [rowsP_next] at h9
        exact ⟨k + 1, by omega, by go_num, h9⟩
      case measure => simp [intOf]; omega
    · obtain rfl : k = n := by omega
      have hkI : ¬ (k : Int) < (k : Int) := by omega
      have qr := (hst.at (i := 0) rfl).cell
      clear hst
      go_wp2_with fail
      have HB0 : Hid (w.heap.size + 1 < wr.heap.size) := Lib.hid (HST.out.lt (i := 0) rfl)
      obtain ⟨B, hB⟩ : ∃ B, wr.heap.size = B := ⟨_, rfl⟩
      have HBB := Lib.hid hB
      clear hB qr
      go_loopw [9, 52] (fun v i wx => ∃ (g : Nat) (A : Option Addr) (c : Nat), g ≤ N ∧ i = .int .i64 (g : Int) ∧ v = .slice A g c ∧ wx.ownsRow B 9 1 (.slice A g c) g (strV ((encF (sN s) k).take g)) ∧ St w wx [(w.heap.size + 1, 73, #[.slice (some ⟨w.heap.size, 0, none⟩) N N]), (w.heap.size, 74, (natV (rowsP (sN s) N k 0)).toArray)] ∧ B ≤ wx.heap.size) (fun _ i _ => N - (intOf i).toNat)
      case atStart => exact ⟨0, none, 0, by omega, rfl, rfl, World.ownsRow_nil _ _ _ _, HST.out, by rw [HBB.out]; exact Nat.le_refl _⟩
      case round =>
        clear HST
        obtain ⟨g, A, c, hg, rfl, rfl, hown, hst, hBx⟩ := hrel
        have qr := (hst.at (i := 0) rfl).cell
        have HO := Lib.hid hown
        have HST := Lib.hid hst
        have HBX := Lib.hid hBx
        by_cases hgn : g < N
        · have hgI : (g : Int) < (N : Int) := by omega
          have h0g : (0 : Int) ≤ (g : Int) := by omega
          have hcv := run_str_at Tryz.underlying75 Tryz.underlying5 Tryz.underlying9 (w := wr) (b := w.heap.size) (off := g * 28) 28 (rowN (sN s) k g) (rowN_b8 (sN_b8 s) k g) (fun j x hx => by
            rw [(hst.at (i := 1) rfl).cell, List.getElem?_toArray]
            exact natV_get (rowN_get _ N _ _ hgn _ _ hx)) 28 (rowN_length _ _ _)
          have CE := Lib.hid (rsencode_any (natS (rowN (sN s) k g)) 4 wr (Or.inr rfl) (by rw [natS_size, rowN_length]; omega) (by rw [natS_size, rowN_length]; omega))
          rw [sN_natS (rowN_b8 (sN_b8 s) k g)] at CE
          have HX : Hid ((encF (sN s) k).take (g + 1) = (encF (sN s) k).take g ++ [natS (rsEnc (rowN (sN s) k g) 4)]) := Lib.hid (by
            rw [List.take_add_one, encF_get _ _ _ (by have := HNN.out; omega)]
            rfl)
          clear hown hst hBx
          go_wp2_with fail
          refine CE.out.mono ?_
          rintro e w4 ⟨rfl, hb4⟩
          have HO4 := Lib.hid (own_all HO.out hb4)
          have HST4 := Lib.hid (St.call hb4 HST.out)
          have HB4 := Lib.hid hb4.size
          have hbx := Nat.le_trans HBX.out hb4.size
          clear hb4 CE hcv
          go_wp2_with (at_builtin; refine wpList_app1 HO4.out info_string Tryz.underlying37 rfl (by unfold maxLen; omega) (by omega) hbx rfl rfl rfl (by rfl) (by rfl) ?_; intro v5 w6 hown6 hb6 hg6; have HST6 := Lib.hid (HST4.out.grown_own HO4.out hg6 (by have := HB0.out; have := HBB.out; omega) (by intro r hr; have := HB0.out; have := HBB.out; exact (List.mem_cons.1 hr).elim (fun e => by rw [e]; show w.heap.size + 1 < B; omega) (fun e => by rw [List.mem_singleton.1 e]; show w.heap.size < B; omega))); obtain ⟨A6, c6, hv6⟩ := own_slice hown6; subst hv6; have HO6 := Lib.hid hown6; have HS6 := Lib.hid (Nat.le_trans hbx hb6.size); clear hown6 hb6 hg6)
          go_roundw
          case rel =>
            have h9 := HO6.out
            rw [strV_snoc, ← HX.out] at h9
            exact ⟨g + 1, A6, c6, by omega, by go_num, rfl, h9, HST6.out, HS6.out⟩
          case measure => simp [intOf]; omega
        · obtain rfl : g = N := by omega
          have hgI : ¬ (g : Int) < (g : Int) := by omega
          clear hown hst hBx
          go_wp2_with fail
          go_ret2
          have h9 := own_base HO.out (show w.heap.size ≤ B by have := HB0.out; have := HBB.out; omega)
          rw [List.take_of_length_le (by unfold encF; rw [List.length_map, List.length_range, HNN.out]; exact Nat.le_refl _)] at h9
          exact ⟨HST.out.bel, A, c, rfl, h9⟩
end Go.Proofs.YtlnjphggfbiabaaGreat
