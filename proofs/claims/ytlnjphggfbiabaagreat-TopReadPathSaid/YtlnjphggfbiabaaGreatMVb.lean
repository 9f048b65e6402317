/-
  The medium laws: recorded (a sector that is built, encoded and scrambled).
-/
import Derived.Test.YtlnjphggfbiabaaGreatMVa
import Derived.Test.YtlnjphggfbiabaaGreatSe4
import Derived.Test.YtlnjphggfbiabaaGreatMLka
import Derived.Test.YtlnjphggfbiabaaGreatShelf
namespace Go.Proofs.YtlnjphggfbiabaaGreat
open Go.RowKit
set_option linter.unusedVariables false

def sec0 (k : Nat) (d : ByteArray) : Sec := ⟨(k : Int), 0, 0, 0, 0, 0, d⟩
def bldN (k : Nat) (d : ByteArray) : List Nat := (buildL (sec0 k d)).map (·.toNat)
def codN (k : Nat) (d : ByteArray) : List Nat := pencN (bldN k d)
def rawN (k : Nat) (d : ByteArray) : List Nat := scrN (codN k d)
theorem sec0_ok {k : Nat} {d : ByteArray} (hk : k ≤ 2) (hd : d.size = 2048) : validB (sec0 k d) = true := by
  have h1 : modeOk (0 : Int) = true := by decide
  have h2 : lCap (0 : Int) = 2048 := by decide
  have h3 : subOk (sec0 k d) = true := by
    unfold subOk sec0
    simp
  unfold validB
  show (modeOk 0 && decide (-150 ≤ (k : Int) ∧ (k : Int) ≤ 449849) && decide ((d.size : Int) = lCap 0) && subOk (sec0 k d)) = true
  rw [h1, h2, h3, hd]
  simp
  omega
theorem toNat_ofNat8 (l : List UInt8) : (l.map (·.toNat)).map UInt8.ofNat = l := by
  rw [List.map_map]
  conv => rhs; rw [← List.map_id l]
  apply List.map_congr_left
  intro a _
  simp
theorem natS_bld (k : Nat) (d : ByteArray) : natS (bldN k d) = ⟨(buildL (sec0 k d)).toArray⟩ := by
  unfold natS bldN
  rw [toNat_ofNat8]
theorem bld_b8 (k : Nat) (d : ByteArray) : B8 (bldN k d) := by
  intro x hx
  obtain ⟨a, _, rfl⟩ := List.mem_map.1 hx
  exact a.toNat_lt
theorem bld_len {k : Nat} {d : ByteArray} (hk : k ≤ 2) (hd : d.size = 2048) : (bldN k d).length = 2352 := by
  unfold bldN
  rw [List.length_map, build_len (sec0_ok hk hd)]
theorem cod_ok {k : Nat} {d : ByteArray} (hk : k ≤ 2) (hd : d.size = 2048) : SecOk (codN k d) ∧ ∀ j, j < 2076 → (codN k d)[j]? = (bldN k d)[j]? := penc_ok (bld_len hk hd) (bld_b8 k d)
theorem raw_ok {k : Nat} {d : ByteArray} (hk : k ≤ 2) (hd : d.size = 2048) : (rawN k d).length = 2352 ∧ B8 (rawN k d) ∧ scrN (rawN k d) = codN k d := by
  have h := (cod_ok hk hd).1
  refine ⟨?_, scrN_b8 h.b8, scrN_inv h.len⟩
  unfold rawN
  rw [scrN_length, h.len]
theorem parse_cod {k : Nat} {d : ByteArray} (hk : k ≤ 2) (hd : d.size = 2048) : parseV (natS (codN k d)) = .tuple #[secV7 (sec0 k d), .int .i64 0] := by
  obtain ⟨h, hj⟩ := cod_ok hk hd
  refine (back_build (x := sec0 k d) (sec0_ok hk hd) (by rw [natS_size, h.len]) ?_).2
  have e : lTop (sec0 k d).mode = 2076 := by
    show lTop 0 = 2076
    decide
  rw [e]
  apply List.ext_getElem?
  intro j
  rw [List.getElem?_take, List.getElem?_take]
  split
  · have h1 : (natS (codN k d)).data.toList[j]? = (codN k d)[j]?.map UInt8.ofNat := by
      unfold natS
      simp
    rw [h1, hj j ‹_›]
    unfold bldN
    rw [List.getElem?_map, Option.map_map]
    cases (buildL (sec0 k d))[j]? with
    | none => rfl
    | some a => simp
  · rfl
theorem sync_cod {k : Nat} {d : ByteArray} (hk : k ≤ 2) (hd : d.size = 2048) : (codN k d).take 12 = [0, 255, 255, 255, 255, 255, 255, 255, 255, 255, 255, 0] := by
  obtain ⟨h, hj⟩ := cod_ok hk hd
  obtain ⟨r, hr⟩ := build_head (sec0 k d)
  have h1 : (codN k d).take 12 = (bldN k d).take 12 := by
    apply List.ext_getElem?
    intro j
    rw [List.getElem?_take, List.getElem?_take]
    split
    · exact hj j (by omega)
    · rfl
  rw [h1]
  unfold bldN
  rw [hr]
  unfold headL
  rw [List.append_assoc, List.append_assoc, List.map_append, List.take_left' (by rw [List.length_map]; rfl)]
  rfl
theorem head_cod0 {d : ByteArray} (hd : d.size = 2048) : ((codN 0 d).drop 12).take 4 = [0, 2, 0, 1] := by
  obtain ⟨h, hj⟩ := cod_ok (k := 0) (by omega) hd
  obtain ⟨r, hr⟩ := build_head (sec0 0 d)
  have h1 : ((codN 0 d).drop 12).take 4 = ((bldN 0 d).drop 12).take 4 := by
    apply List.ext_getElem?
    intro j
    rw [List.getElem?_take, List.getElem?_take, List.getElem?_drop, List.getElem?_drop]
    split
    · exact hj _ (by omega)
    · rfl
  rw [h1]
  unfold bldN
  rw [hr]
  unfold headL
  rw [List.append_assoc, List.append_assoc, List.map_append, List.drop_left' (by rw [List.length_map]; rfl)]
  rfl
set_option maxRecDepth 100000 in
set_option maxHeartbeats 4000000 in
theorem recorded_any (k : Nat) (d : ByteArray) (w : World) (hk : k ≤ 2) (hd : d.size = 2048) :
    Calls Tryz.prog 11 #[.int .i64 (k : Int), .string d] w fun e w' => e = .returned (.tuple #[.string (natS (rawN k d)), .bool true]) ∧ Below w.heap.size w w' := by
  have CB : Hid (Calls Tryz.prog 30 #[.agg #[.int .i64 (k : Int), .int .i64 0, .int .i64 0, .int .i64 0, .int .i64 0, .int .i64 0, .string d]] w fun e w' => e = .returned (.tuple #[.string (natS (bldN k d)), .int .i64 0]) ∧ Below w.heap.size w w') := Lib.hid (by
    have h := build_any (sec0 k d) w (by show (_ : Int) ≤ (k : Int); omega) (by show d.size ≤ _; omega)
    rw [show buildR (sec0 k d) = .tuple #[.string ⟨(buildL (sec0 k d)).toArray⟩, .int .i64 0] from if_pos (sec0_ok hk hd), ← natS_bld] at h
    exact h)
  have CE := Lib.hid (fun w' => by
    have h := penc_any (natS (bldN k d)) w' (by rw [natS_size, bld_len hk hd])
    rw [sN_natS (bld_b8 k d)] at h
    exact h)
  have CS := Lib.hid (fun w' => by
    have h := scramble_any (natS (codN k d)) w' (by rw [natS_size, (cod_ok hk hd).1.len])
    rw [sN_natS (cod_ok hk hd).1.b8] at h
    exact h)
  have hsz : (natS (rawN k d)).size = 2352 := by rw [natS_size, (raw_ok hk hd).1]
  change Hid (∀ w', Calls _ _ _ w' fun e w'' => e = .returned (.tuple #[.string (natS (codN k d)), .int .i64 0]) ∧ _) at CE
  change Hid (∀ w', Calls _ _ _ w' fun e w'' => e = .returned (.tuple #[.string (natS (rawN k d)), .int .i64 0]) ∧ _) at CS
  generalize natS (rawN k d) = R at *
  generalize natS (codN k d) = C at *
  generalize natS (bldN k d) = B at *
  have hszI : ((R.size : Nat) : Int) = 2352 := by omega
  clear hsz
  go_enter Tryz.func11, Tryz.ntmps11
  go_wp2_with fail
  refine CB.out.mono ?_
  rintro e w1 ⟨rfl, hb1⟩
  have HB1 := Lib.hid hb1
  clear hb1 CB
  go_wp2_with fail
  refine (CE.out w1).mono ?_
  rintro e w2 ⟨rfl, hb2⟩
  have HB2 := Lib.hid (HB1.out.trans (hb2.mono HB1.out.size))
  clear hb2 CE HB1
  go_wp2_with fail
  refine (CS.out w2).mono ?_
  rintro e w3 ⟨rfl, hb3⟩
  have HB3 := Lib.hid (HB2.out.trans (hb3.mono HB2.out.size))
  clear hb3 CS HB2
  go_wp2_with fail
  refine bodyPost_ret (v := .tuple #[.string R, .bool true]) (by simp [results, Tryz.results11, go_sem]) rfl ⟨rfl, HB3.out⟩
end Go.Proofs.YtlnjphggfbiabaaGreat

/-
  The medium laws: coded, the theorems' example.
-/
namespace Go.Proofs.YtlnjphggfbiabaaGreat
open Go.RowKit
set_option linter.unusedVariables false

theorem slat_pair {w : World} {B b : Nat} (x y : Int) (h1 : w.cell? ⟨b, 0, none⟩ = some (.int .i64 x)) (h2 : w.cell? ⟨b, 1, none⟩ = some (.int .i64 y)) (hb : b < B) : SlAt w B (some ⟨b, 0, none⟩) (flat encI [(x, y)]) := by
  intro k u hk
  rcases k with _ | _ | k
  · injection hk with hk; subst hk; exact ⟨b, 0, rfl, hb, h1⟩
  · injection hk with hk; subst hk; exact ⟨b, 0, rfl, hb, h2⟩
  · exact absurd hk (by rw [List.getElem?_eq_none (by show 2 ≤ k + 2; omega)]; simp)
set_option maxRecDepth 100000 in
set_option maxHeartbeats 4000000 in
theorem coded_ok : CodedOk := by
  intro w
  have C0 := Lib.hid (fun w' => Tryz.strings_Repeat ⟨#[0]⟩ 2048 w' (by omega) (by decide))
  have hz : (⟨(Lib.repeatL [0] 2048).toArray⟩ : ByteArray).size = 2048 := by kernel_rfl
  change Hid (∀ w', Calls _ _ _ w' fun e w'' => e = .returned (.string ⟨(Lib.repeatL [0] 2048).toArray⟩) ∧ _) at C0
  generalize (⟨(Lib.repeatL [0] 2048).toArray⟩ : ByteArray) = z at *
  have CR := Lib.hid (fun w' => recorded_any 0 z w' (by omega) hz)
  obtain ⟨hrl, hr8, hrc⟩ := raw_ok (k := 0) (by omega) hz
  obtain ⟨hco, _⟩ := cod_ok (k := 0) (by omega) hz
  have hpc := parse_cod (k := 0) (by omega) hz
  have hhd : (natS (rawN 0 z)).extract 12 16 = ⟨#[1, 130, 0, 97]⟩ := by
    have h := natS_sN ((natS (rawN 0 z)).extract 12 16)
    rw [← h, sN_extract, sN_natS hr8, show (16 : Nat) - 12 = 4 from rfl]
    unfold rawN
    rw [scrN_head hco.len (head_cod0 hz)]
    rfl
  have hrs : (natS (rawN 0 z)).size = 2352 := by rw [natS_size, hrl]
  have CE : Hid (∀ w', Calls Tryz.prog 12 #[.string (natS (rawN 0 z))] w' fun e w'' => Below w'.heap.size w' w'' ∧ ∃ A c, e = .returned (.tuple #[.slice A 206 c, .int .i64 0]) ∧ w''.ownsRow w'.heap.size 9 1 (.slice A 206 c) 206 (strV (encF (rawN 0 z) 98))) := Lib.hid (fun w' => by
    have h := circenc_any (natS (rawN 0 z)) 98 w' hrs (by omega) (by omega)
    rw [sN_natS hr8] at h
    exact h)
  have hEl : (encF (rawN 0 z) 98).length = 206 := by unfold encF; rw [List.length_map, List.length_range]
  have CX : Hid (∀ (A : Option Addr) (c g : Nat) (w' : World), SlAt w' w'.heap.size A (strV (encF (rawN 0 z) 98)) → SlAt w' w'.heap.size (some ⟨g, 0, none⟩) (flat encI [(50, 16)]) → Calls Tryz.prog 13 #[.slice A 206 c, .slice (some ⟨g, 0, none⟩) 1 1] w' fun e w'' => Below w'.heap.size w' w'' ∧ ∃ A c, e = .returned (.tuple #[.slice A 206 c, .int .i64 0]) ∧ w''.ownsRow w'.heap.size 9 1 (.slice A 206 c) 206 (strV (scrS (encF (rawN 0 z) 98) [(50, 16)]))) := Lib.hid (fun A c g w' h1 h2 => by
    have h := scratch_any (encF (rawN 0 z) 98) [(50, 16)] A (some ⟨g, 0, none⟩) c 1 w' h1 h2 (by omega) (by omega) (by decide) (fun p hp => by rw [List.mem_singleton.1 hp]; decide)
    rw [hEl] at h
    refine h.mono ?_
    rintro e w'' ⟨hb, ⟨hf, _⟩ | ⟨_, A2, c2, he, ho⟩⟩
    · exact absurd hf (by rw [hEl]; decide)
    · rw [hEl] at he ho
      exact ⟨hb, A2, c2, he, ho⟩)
  have CD : Hid (∀ (A : Option Addr) (c : Nat) (w' : World), SlAt w' w'.heap.size A (strV (scrS (encF (rawN 0 z) 98) [(50, 16)])) → Calls Tryz.prog 14 #[.slice A 206 c] w' fun e w'' => Below w'.heap.size w' w'' ∧ ∃ A c, e = .returned (.tuple #[.string (natS (rawN 0 z)), .slice A 0 c, .int .i64 0])) := Lib.hid (fun A c w' h1 => by
    have h := circdec_any (rawN 0 z) (scrS (encF (rawN 0 z) 98) [(50, 16)]) 98 A c w' h1 hrl hr8 (frOk_scr hr8 98 _) (by omega) (by omega)
    rw [scrS_length, hEl] at h
    refine h.mono ?_
    rintro e w'' ⟨hb, A2, c2, he, _⟩
    have hn := lsK_none (k := 98) (er_50 hr8)
    rw [outK_all hrl hr8 hn, hn] at he
    exact ⟨hb, A2, c2, he⟩)
  have CS : Hid (∀ w', Calls Tryz.prog 15 #[.string (natS (rawN 0 z))] w' fun e w'' => e = .returned (.tuple #[.string (natS (codN 0 z)), .int .i64 0]) ∧ Below w'.heap.size w' w'') := Lib.hid (fun w' => by
    have h := scramble_any (natS (rawN 0 z)) w' hrs
    rw [sN_natS hr8, hrc] at h
    exact h)
  have CP : Hid (∀ w', Calls Tryz.prog 19 #[.string (natS (codN 0 z))] w' fun e w'' => e = .returned (.tuple #[.agg #[.int .i64 0, .int .i64 0, .int .i64 0, .int .i64 0, .int .i64 0, .int .i64 0, .string z], .int .i64 0]) ∧ Below w'.heap.size w' w'') := Lib.hid (fun w' => by
    have h := parse_any (natS (codN 0 z)) w' (by rw [natS_size, hco.len]; decide)
    rw [hpc] at h
    exact h)
  have CV := Lib.hid (fun w' => pvalid_ok (codN 0 z) w' hco)
  generalize scrS (encF (rawN 0 z) 98) [(50, 16)] = X at *
  generalize encF (rawN 0 z) 98 = E at *
  generalize natS (rawN 0 z) = R at *
  generalize natS (codN 0 z) = C at *
  have hrI : ((R.size : Nat) : Int) = 2352 := by omega
  have HEX := Lib.hid hhd
  clear hrl hr8 hrc hco hpc hrs hEl hz hhd
  go_enter Tryz.func5, Tryz.ntmps5
  go_wp2_with fail
  refine (C0.out w).mono ?_
  rintro e w1 ⟨rfl, hb1⟩
  have HB1 := Lib.hid hb1
  clear hb1 C0
  go_wp2_with fail
  refine (CR.out w1).mono ?_
  rintro e w2 ⟨rfl, hb2⟩
  have HB2 := Lib.hid (HB1.out.trans (hb2.mono HB1.out.size))
  have hex := HEX.out
  clear hb2 CR HB1 HEX
  go_wp2_with fail
  refine (CE.out w2).mono ?_
  rintro e w3 ⟨hb3, A, c, rfl, hown⟩
  have HB3 := Lib.hid (HB2.out.trans (hb3.mono HB2.out.size))
  have HS := Lib.hid (SlAt.of_own' hown (Nat.le_refl _))
  clear hb3 CE HB2 hown hex
  go_wp2_with fail
  refine (CX.out A c w3.heap.size (w3.alloc (.cells #[.int .i64 50, .int .i64 16] 28)) ?_ ?_).mono ?_
  · exact (HS.out.below ((Below.refl _ _).alloc (Nat.le_refl _) _)).mono (by simp)
  · exact slat_pair 50 16 (by rw [cell_of_row _ w3.heap.size 0 _ _ (0, 0) (heap_alloc_new w3 _)]; rfl) (by rw [cell_of_row _ w3.heap.size 1 _ _ (0, 0) (heap_alloc_new w3 _)]; rfl) (by simp)
  rintro e w4 ⟨hb4, A4, c4, rfl, hown⟩
  have HB4 := Lib.hid (HB3.out.trans ((((Below.refl _ _).alloc (Nat.le_refl _) _).trans (hb4.mono (by simp))).mono HB3.out.size))
  have HS4 := Lib.hid (SlAt.of_own' hown (Nat.le_refl _))
  clear hb4 CX HB3 hown HS
  go_wp2_with fail
  refine (CD.out A4 c4 w4 HS4.out).mono ?_
  rintro e w5 ⟨hb5, A5, c5, rfl⟩
  have HB5 := Lib.hid (HB4.out.trans (hb5.mono HB4.out.size))
  clear hb5 CD HB4 HS4
  go_wp2_with fail
  refine (CS.out w5).mono ?_
  rintro e w6 ⟨rfl, hb6⟩
  have HB6 := Lib.hid (HB5.out.trans (hb6.mono HB5.out.size))
  clear hb6 CS HB5
  go_wp2_with fail
  refine (CP.out w6).mono ?_
  rintro e w7 ⟨rfl, hb7⟩
  have HB7 := Lib.hid (HB6.out.trans (hb7.mono HB6.out.size))
  clear hb7 CP HB6
  go_wp2_with fail
  refine (CV.out _).mono ?_
  rintro e w8 ⟨rfl, hb8⟩
  have HB8 := Lib.hid (HB7.out.trans ((((Below.refl _ _).alloc (Nat.le_refl _) _).trans (hb8.mono (by simp))).mono HB7.out.size))
  clear hb8 CV HB7
  go_wp2_with fail
  go_ret
  exact ⟨rfl, HB8.out⟩
end Go.Proofs.YtlnjphggfbiabaaGreat
