/-
  Build of the reference, at the modes with a subheader; Build at any contents.
-/
import Derived.Test.YtdjpnabkmanboaaRMake
namespace Go.Proofs.Ytdjpnabkmanboaa
open Go.RowKit
set_option linter.unusedVariables false
attribute [local go_sem ↓] Go.wp_at_zero Go.wp_at_succ

set_option maxRecDepth 100000 in
set_option maxHeartbeats 4000000 in
theorem rbuild_two (x : Sec) (w : World) (hv : validB x = true) (hm : x.mode = 1 ∨ x.mode = 2) (h1 : -150 ≤ x.lba) (h2 : x.lba ≤ 449849) (n2 : Nat) (h4 : lCap x.mode = (n2 : Int)) (h3 : x.data.size = n2) :
    Calls Try.prog 12 #[secV x] w fun e w' => e = .returned (.tuple #[.string ⟨(buildL x).toArray⟩, .int .i64 0]) ∧ Below w.heap.size w w' := by
  have CV : Hid (∀ w, Calls Try.prog 14 #[secV x] w fun e w' => e = .returned (.bool true) ∧ Below w.heap.size w w') := by
    have := fun w => rvalid7_any x w (by rw [h3]; unfold lCap at h4; split at h4 <;> omega)
    rwa [hv] at this
  obtain ⟨lba, mode, fi, ch, su, co, data⟩ := x
  dsimp only at *
  have hn2 : n2 ≤ 2324 := by unfold lCap at h4; split at h4 <;> omega
  have hm0 : (mode == 0) = false := by rw [beq_eq_false_iff_ne]; omega
  have hmo : modeOk mode = true := modeOk_iff.2 (by omega)
  have hco : lCov mode = ((16 : Nat) : Int) := by unfold lCov; rw [if_neg (by omega)]; rfl
  have hda : lData mode = 24 := by unfold lData; rw [if_neg (by omega)]
  have hsub := hv
  unfold validB at hsub
  rw [Bool.and_eq_true] at hsub
  have hs0 := hsub.2
  rw [subOk, if_neg (by dsimp only; omega)] at hs0
  simp only [Bool.and_eq_true, btw_iff] at hs0
  obtain ⟨⟨⟨⟨⟨f0, f1⟩, c0, c1⟩, s0, s1⟩, o0, o1⟩, _⟩ := hs0
  have C2 := Lib.hid (fun w => rtomsf_ok lba w h1 h2)
  have hok := msfN_ok (n := lba + 150) (by omega) (by omega)
  have C3 := Lib.hid (fun w => rencode_any ((lba + 150) / 75 / 60) ((lba + 150) / 75 % 60) ((lba + 150) % 75) w hok)
  have C4 := Lib.hid (fun w => rsync_any w)
  have hml : (msfBs ((lba + 150) / 75 / 60) ((lba + 150) / 75 % 60) ((lba + 150) % 75)).length = 3 := rfl
  have hdd : (⟨data.data.toList.toArray⟩ : ByteArray) = data := by simp
  have hpre : preL ⟨lba, mode, fi, ch, su, co, data⟩ = syncL ++ msfBs ((lba + 150) / 75 / 60) ((lba + 150) / 75 % 60) ((lba + 150) % 75) ++ [2] ++ (subBs ⟨lba, mode, fi, ch, su, co, data⟩ ++ subBs ⟨lba, mode, fi, ch, su, co, data⟩) ++ data.data.toList := by
    unfold preL headL lByte
    rw [if_neg (by dsimp only; omega), if_neg (by dsimp only; omega)]
    rfl
  have hsb : subBs ⟨lba, mode, fi, ch, su, co, data⟩ = [UInt8.ofNat fi.toNat, UInt8.ofNat ch.toNat, UInt8.ofNat su.toNat, UInt8.ofNat co.toNat] := rfl
  have hsbl : (subBs ⟨lba, mode, fi, ch, su, co, data⟩).length = 4 := rfl
  have hcd : codedL ⟨lba, mode, fi, ch, su, co, data⟩ = preL ⟨lba, mode, fi, ch, su, co, data⟩ ++ codeL (preL ⟨lba, mode, fi, ch, su, co, data⟩) 16 := by unfold codedL lCov; rw [if_neg (by dsimp only; omega)]; rfl
  have hbl : buildL ⟨lba, mode, fi, ch, su, co, data⟩ = codedL ⟨lba, mode, fi, ch, su, co, data⟩ ++ List.replicate (2352 - (codedL ⟨lba, mode, fi, ch, su, co, data⟩).length) 0 := rfl
  have hdl : data.data.toList.length = n2 := by simpa using h3
  have hsl : syncL.length = 12 := rfl
  rw [secV] at CV ⊢
  rw [msfV] at C2 C3
  generalize subBs ⟨lba, mode, fi, ch, su, co, data⟩ = SB at *
  generalize preL ⟨lba, mode, fi, ch, su, co, data⟩ = PRE at *
  generalize codedL ⟨lba, mode, fi, ch, su, co, data⟩ = COD at *
  generalize buildL ⟨lba, mode, fi, ch, su, co, data⟩ = BLD at *
  generalize msfBs ((lba + 150) / 75 / 60) ((lba + 150) / 75 % 60) ((lba + 150) % 75) = MS at *
  generalize (lba + 150) / 75 / 60 = m0 at *
  generalize (lba + 150) / 75 % 60 = m1 at *
  generalize (lba + 150) % 75 = m2 at *
  generalize syncL = SY at *
  have hpl : PRE.length = 24 + n2 := by rw [hpre]; simp only [List.length_append, List.length_cons, List.length_nil]; omega
  have hcl : (codeL PRE 16).length = 4 := rfl
  have hcl2 : COD.length = 28 + n2 := by rw [hcd, List.length_append]; omega
  have C5 : Hid (∀ w, Calls Try.prog 35 #[.string ⟨PRE.toArray⟩, .int .i64 mode] w fun e w' => e = .returned (.string ⟨(codeL PRE 16).toArray⟩) ∧ Below w.heap.size w w') := fun w => by
    have := rcode_any ⟨PRE.toArray⟩ mode 16 (n2 + 8) w hmo hco (by rw [hda, h4, hco]; omega) (by rw [str_size]; omega) (by rw [str_size]; omega)
    rwa [show ((⟨PRE.toArray⟩ : ByteArray).data.toList.take (16 + (n2 + 8))) = PRE from List.take_of_length_le (by rw [show (⟨PRE.toArray⟩ : ByteArray).data.toList = PRE by simp]; omega)] at this
  have C6 : Hid (∀ w, Calls Try.prog 36 #[.int .u8 0, .int .i64 (2324 - (n2 : Int))] w fun e w' => e = .returned (.string ⟨(List.replicate (2324 - n2) (0 : UInt8)).toArray⟩) ∧ Below w.heap.size w w') := fun w => by
    have := rep_any 0 (2324 - n2) w (by omega)
    rwa [show ((2324 - n2 : Nat) : Int) = 2324 - (n2 : Int) by omega] at this
  have hbd : BLD = COD ++ List.replicate (2324 - n2) 0 := by rw [hbl, hcl2, show 2352 - (28 + n2) = 2324 - n2 by omega]
  have hzl : (List.replicate (2324 - n2) (0 : UInt8)).length = 2324 - n2 := List.length_replicate
  generalize List.replicate (2324 - n2) (0 : UInt8) = Z at *
  generalize codeL PRE 16 = CS at *
  have r1 : (⟨SY.toArray⟩ : ByteArray) ++ ⟨MS.toArray⟩ ++ ⟨#[2]⟩ ++ ⟨SB.toArray⟩ ++ ⟨SB.toArray⟩ ++ data = ⟨PRE.toArray⟩ := by
    rw [hpre, ← List.append_assoc (SY ++ MS ++ [2]) SB SB, ← str_append, ← str_append, ← str_append, ← str_append, ← str_append, hdd]
  have r2 : (⟨PRE.toArray⟩ : ByteArray) ++ ⟨CS.toArray⟩ = ⟨COD.toArray⟩ := by rw [hcd, str_append]
  have r3 : (⟨COD.toArray⟩ : ByteArray) ++ ⟨Z.toArray⟩ = ⟨BLD.toArray⟩ := by rw [hbd, str_append]
  have z1 : (⟨SY.toArray⟩ : ByteArray).size ≤ 12 := by rw [str_size]; omega
  have z2 : (⟨MS.toArray⟩ : ByteArray).size ≤ 3 := by rw [str_size]; omega
  have z3 : (⟨PRE.toArray⟩ : ByteArray).size ≤ 2348 := by rw [str_size]; omega
  have z4 : (⟨CS.toArray⟩ : ByteArray).size ≤ 4 := by rw [str_size]; omega
  have z5 : (⟨COD.toArray⟩ : ByteArray).size ≤ 2352 := by rw [str_size]; omega
  have z6 : (⟨Z.toArray⟩ : ByteArray).size ≤ 2324 := by rw [str_size]; omega
  have z8 : (⟨SB.toArray⟩ : ByteArray).size ≤ 4 := by rw [str_size]; omega
  have hI : (((⟨COD.toArray⟩ : ByteArray).size : Nat) : Int) = 28 + (n2 : Int) := by rw [str_size]; omega
  have hI2 : 2352 - (28 + (n2 : Int)) = 2324 - (n2 : Int) := by omega
  have hcv := fun w0 : World => own_lit (w0.alloc (.cells #[.int .u8 fi, .int .u8 ch, .int .u8 su, .int .u8 co] 5)) SB #[.int .u8 fi, .int .u8 ch, .int .u8 su, .int .u8 co] 4 hsbl (by rw [hsb]; simp [byteV]; omega) (by unfold maxLen; omega) _ w0.heap.size (RowAt.new _ _ _)
  have z7 : data.size ≤ 2324 := by omega
  generalize (⟨SY.toArray⟩ : ByteArray) = sSY at *
  generalize (⟨MS.toArray⟩ : ByteArray) = sMS at *
  generalize (⟨SB.toArray⟩ : ByteArray) = sSB at *
  generalize (⟨PRE.toArray⟩ : ByteArray) = sPRE at *
  generalize (⟨CS.toArray⟩ : ByteArray) = sCS at *
  generalize (⟨COD.toArray⟩ : ByteArray) = sCOD at *
  generalize (⟨Z.toArray⟩ : ByteArray) = sZ at *
  clear hok hpre hcd hbl hbd hml hdl hsl hpl hcl hcl2 hzl hdd hv h3 h4 hm hmo hco hda hsub hsb hsbl
  have HCV := Lib.hid hcv
  clear hcv
  go_enter Try.func12, Try.ntmps12
  go_wp2_with fail
  refine (CV.out _).mono ?_
  rintro r w1 ⟨rfl, hb1⟩
  have hs1 : w.heap.size < w1.heap.size := by have := hb1.size; simp at this; omega
  have hr1 : RowAt w1 w.heap.size 25 _ := (RowAt.new w _ _).below hb1 (by simp)
  have q1 := hr1.cell
  have b1 : Below w.heap.size w w1 := ((Below.refl _ _).alloc (Nat.le_refl _) _).trans (hb1.mono (by simp))
  go_wp2_with fail
  refine (C2.out _).mono ?_
  rintro r w2 ⟨rfl, hb2⟩
  have hs2 : w.heap.size < w2.heap.size := by have := hb2.size; omega
  have hr2 := hr1.below hb2 hs1
  have q2 := hr2.cell
  have b2 : Below w.heap.size w w2 := b1.trans (hb2.mono b1.size)
  clear q1 hr1 hb1 hb2 b1
  go_wp2_with fail
  refine (C3.out _).mono ?_
  rintro r w3 ⟨rfl, hb3⟩
  have hs3 : w.heap.size < w3.heap.size := by have := hb3.size; simp at this; omega
  have hr3 := (hr2.alloc _).below hb3 (by simp; omega)
  have q3 := hr3.cell
  have b3 : Below w.heap.size w w3 := (b2.alloc b2.size _).trans (hb3.mono (by have := b2.size; simp; omega))
  have hcv := HCV.out w3
  have hdc : (w3.alloc (.cells #[.int .u8 fi, .int .u8 ch, .int .u8 su, .int .u8 co] 5)).cell? ⟨w.heap.size, 6, none⟩ = some (.string data) := (hr3.alloc (.cells #[.int .u8 fi, .int .u8 ch, .int .u8 su, .int .u8 co] 5)).cell 6
  have hs3' : w.heap.size < (w3.alloc (.cells #[.int .u8 fi, .int .u8 ch, .int .u8 su, .int .u8 co] 5)).heap.size := by simp; omega
  have b3' := b3.alloc b3.size (.cells #[.int .u8 fi, .int .u8 ch, .int .u8 su, .int .u8 co] 5)
  clear q2 hr2 hb3 b2
  go_wp2_with fail
  go_region_with ((go_at_call 34; refine (C4.out _).mono ?_; rintro r w4 ⟨rfl, hb4⟩; have k6 := hb4.cell (p := ⟨w.heap.size, 6, none⟩) hs3'))
  all_goals
    have hr4 : RowAt w4 w.heap.size 25 _ := RowAt.below (w := (w3.alloc (.cells #[.int .u8 fi, .int .u8 ch, .int .u8 su, .int .u8 co] 5)).drew) (hr3.alloc (.cells #[.int .u8 fi, .int .u8 ch, .int .u8 su, .int .u8 co] 5)) hb4 hs3'
    have q4 := hr4.cell
    have hs4 : w.heap.size < w4.heap.size := hr4.lt
    have b4 : Below w.heap.size w w4 := b3'.drew.trans (hb4.mono b3'.drew.size)
    clear q3 hr3 hb4 b3 b3' r1
    go_wp2_with fail
    refine (C5.out _).mono ?_
    rintro r w5 ⟨rfl, hb5⟩
    have b5 : Below w.heap.size w w5 := b4.trans (hb5.mono b4.size)
    go_wp2_with fail
    refine (C6.out _).mono ?_
    rintro r w6 ⟨rfl, hb6⟩
    have b6 : Below w.heap.size w w6 := b5.trans (hb6.mono b5.size)
    go_wp2_with fail
    go_ret2
    exact ⟨rfl, b6⟩

def buildR (x : Sec) : Value := if validB x then .tuple #[.string ⟨(buildL x).toArray⟩, .int .i64 0] else .tuple #[.string ⟨#[]⟩, .int .i64 1]
theorem valid_parts {x : Sec} (h : validB x = true) : modeOk x.mode = true ∧ -150 ≤ x.lba ∧ x.lba ≤ 449849 ∧ (x.data.size : Int) = lCap x.mode := by
  unfold validB at h
  simp only [Bool.and_eq_true, decide_eq_true_eq] at h
  exact ⟨h.1.1.1, h.1.1.2.1, h.1.1.2.2, h.1.2⟩
theorem build_any (x : Sec) (w : World) (hn : -9223372036854775808 ≤ x.lba) (hd : x.data.size ≤ 9223372036854775807) :
    Calls Try.prog 11 #[secV x] w fun e w' => e = .returned (buildR x) ∧ Below w.heap.size w w' := by
  cases hv : validB x with
  | false =>
    rw [show buildR x = .tuple #[.string ⟨#[]⟩, .int .i64 1] from if_neg (by simp [hv])]
    exact build_no x w hn hd hv
  | true =>
    rw [show buildR x = .tuple #[.string ⟨(buildL x).toArray⟩, .int .i64 0] from if_pos hv]
    obtain ⟨h0, h1, h2, h3⟩ := valid_parts hv
    rcases modeOk_iff.1 h0 with hm | hm
    · exact build_one x w hn hv hm h1 h2 (by rw [hm] at h3; exact Int.ofNat_inj.1 h3)
    · exact build_two x w hn hv hm h1 h2 x.data.size h3.symm rfl
theorem rbuild_any (x : Sec) (w : World) (hd : x.data.size ≤ 9223372036854775807) :
    Calls Try.prog 12 #[secV x] w fun e w' => e = .returned (buildR x) ∧ Below w.heap.size w w' := by
  cases hv : validB x with
  | false =>
    rw [show buildR x = .tuple #[.string ⟨#[]⟩, .int .i64 1] from if_neg (by simp [hv])]
    exact rbuild_no x w hd hv
  | true =>
    rw [show buildR x = .tuple #[.string ⟨(buildL x).toArray⟩, .int .i64 0] from if_pos hv]
    obtain ⟨h0, h1, h2, h3⟩ := valid_parts hv
    rcases modeOk_iff.1 h0 with hm | hm
    · exact rbuild_one x w hv hm h1 h2 (by rw [hm] at h3; exact Int.ofNat_inj.1 h3)
    · exact rbuild_two x w hv hm h1 h2 x.data.size h3.symm rfl
end Go.Proofs.Ytdjpnabkmanboaa
