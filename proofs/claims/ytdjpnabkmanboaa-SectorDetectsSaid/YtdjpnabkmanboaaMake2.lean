/-
  Build of the program, at the modes with a subheader.
-/
import Derived.Test.YtdjpnabkmanboaaMake
namespace Go.Proofs.Ytdjpnabkmanboaa
open Go.RowKit
set_option linter.unusedVariables false

set_option maxRecDepth 100000 in
set_option maxHeartbeats 4000000 in
theorem build_two (x : Sec) (w : World) (hn : -9223372036854775808 ≤ x.lba) (hv : validB x = true) (hm : x.mode = 1 ∨ x.mode = 2) (h1 : -150 ≤ x.lba) (h2 : x.lba ≤ 449849) (n2 : Nat) (h4 : lCap x.mode = (n2 : Int)) (h3 : x.data.size = n2) :
    Calls Try.prog 11 #[secV x] w fun e w' => e = .returned (.tuple #[.string ⟨(buildL x).toArray⟩, .int .i64 0]) ∧ Below w.heap.size w w' := by
  have CV : Hid (∀ w, Calls Try.prog 13 #[secV x] w fun e w' => e = .returned (.bool true) ∧ Below w.heap.size w w') := by
    have := fun w => valid7_any x w hn (by rw [h3]; unfold lCap at h4; split at h4 <;> omega)
    rwa [hv] at this
  obtain ⟨lba, mode, fi, ch, su, co, data⟩ := x
  dsimp only at *
  have hn2 : n2 ≤ 2324 := by unfold lCap at h4; split at h4 <;> omega
  have hm0 : (mode != 0) = true := by rw [bne_iff_ne]; omega
  have hsub := hv
  unfold validB at hsub
  rw [Bool.and_eq_true] at hsub
  have hs0 := hsub.2
  rw [subOk, if_neg (by dsimp only; omega)] at hs0
  simp only [Bool.and_eq_true, btw_iff] at hs0
  obtain ⟨⟨⟨⟨⟨f0, f1⟩, c0, c1⟩, s0, s1⟩, o0, o1⟩, _⟩ := hs0
  have C1 : Hid (∀ w, Calls Try.prog 26 #[.int .i64 mode] w fun e w' => e = .returned (.tuple #[.agg #[.int .u8 2, .int .i64 24, .int .i64 (n2 : Int), .int .i64 16], .bool true]) ∧ Below w.heap.size w w') := by
    have := fun w => layouts_ok mode w (modeOk_iff.2 (by omega))
    rwa [show layV mode = .agg #[.int .u8 2, .int .i64 24, .int .i64 (n2 : Int), .int .i64 16] by unfold layV lByte lData lCov; rw [if_neg (by omega), if_neg (by omega), if_neg (by omega), h4]] at this
  have C2 := Lib.hid (fun w => tomsf_ok lba w h1 h2)
  have hok := msfN_ok (n := lba + 150) (by omega) (by omega)
  have C3 := Lib.hid (fun w => encode_any ((lba + 150) / 75 / 60) ((lba + 150) / 75 % 60) ((lba + 150) % 75) w hok)
  have C4 : Hid (∀ w, Calls Try.prog 29 #[] w fun e w' => e = .returned (.agg #[.int .u8 0, .int .u8 255, .int .u8 255, .int .u8 255, .int .u8 255, .int .u8 255, .int .u8 255, .int .u8 255, .int .u8 255, .int .u8 255, .int .u8 255, .int .u8 0]) ∧ Below w.heap.size w w') := fun w => sync_any w
  have hml : (msfBs ((lba + 150) / 75 / 60) ((lba + 150) / 75 % 60) ((lba + 150) % 75)).length = 3 := rfl
  have hhead : headL ⟨lba, mode, fi, ch, su, co, data⟩ = syncL ++ msfBs ((lba + 150) / 75 / 60) ((lba + 150) / 75 % 60) ((lba + 150) % 75) ++ [2] := by unfold headL lByte; rw [if_neg (by dsimp only; omega)]; rfl
  have hpre : preL ⟨lba, mode, fi, ch, su, co, data⟩ = headL ⟨lba, mode, fi, ch, su, co, data⟩ ++ (subBs ⟨lba, mode, fi, ch, su, co, data⟩ ++ subBs ⟨lba, mode, fi, ch, su, co, data⟩) ++ data.data.toList := if_neg (by dsimp only; omega)
  have hsb : subBs ⟨lba, mode, fi, ch, su, co, data⟩ = [UInt8.ofNat fi.toNat, UInt8.ofNat ch.toNat, UInt8.ofNat su.toNat, UInt8.ofNat co.toNat] := rfl
  have hsbl : (subBs ⟨lba, mode, fi, ch, su, co, data⟩).length = 4 := rfl
  have hcd : codedL ⟨lba, mode, fi, ch, su, co, data⟩ = preL ⟨lba, mode, fi, ch, su, co, data⟩ ++ codeL (preL ⟨lba, mode, fi, ch, su, co, data⟩) 16 := by unfold codedL lCov; rw [if_neg (by dsimp only; omega)]; rfl
  have hbl : buildL ⟨lba, mode, fi, ch, su, co, data⟩ = codedL ⟨lba, mode, fi, ch, su, co, data⟩ ++ List.replicate (2352 - (codedL ⟨lba, mode, fi, ch, su, co, data⟩).length) 0 := rfl
  have hdl : data.data.toList.length = n2 := by simpa using h3
  rw [secV] at CV ⊢
  rw [msfV] at C2 C3
  rw [hhead] at hpre
  generalize subBs ⟨lba, mode, fi, ch, su, co, data⟩ = SB at *
  generalize preL ⟨lba, mode, fi, ch, su, co, data⟩ = PRE at *
  generalize codedL ⟨lba, mode, fi, ch, su, co, data⟩ = COD at *
  generalize buildL ⟨lba, mode, fi, ch, su, co, data⟩ = BLD at *
  generalize msfBs ((lba + 150) / 75 / 60) ((lba + 150) / 75 % 60) ((lba + 150) % 75) = MS at *
  generalize (lba + 150) / 75 / 60 = m0 at *
  generalize (lba + 150) / 75 % 60 = m1 at *
  generalize (lba + 150) % 75 = m2 at *
  have HPRE := Lib.hid hpre
  have HCOD := Lib.hid hcd
  have HBLD := Lib.hid hbl
  have HML := Lib.hid hml
  have HSB := Lib.hid hsb
  have HSBL := Lib.hid hsbl
  have HDL := Lib.hid hdl
  clear hv hok hpre hcd hbl hhead hml hdl hsb hsbl hm h4 h3 hsub
  go_enter Try.func11, Try.ntmps11
  go_wp2_with fail
  refine (CV.out _).mono ?_
  rintro r w1 ⟨rfl, hb1⟩
  have hs1 : w.heap.size < w1.heap.size := by have := hb1.size; simp at this; omega
  have hr1 : RowAt w1 w.heap.size 25 _ := (RowAt.new w _ _).below hb1 (by simp)
  have q1 := hr1.cell
  have b1 : Below w.heap.size w w1 := ((Below.refl _ _).alloc (Nat.le_refl _) _).trans (hb1.mono (by simp))
  go_wp2_with fail
  refine (C1.out _).mono ?_
  rintro r w2 ⟨rfl, hb2⟩
  have hs2 : w.heap.size < w2.heap.size := by have := hb2.size; omega
  have hr2 := hr1.below hb2 hs1
  have q2 := hr2.cell
  have b2 : Below w.heap.size w w2 := b1.trans (hb2.mono b1.size)
  clear q1 hr1 hb1 hb2 b1
  go_wp2_with fail
  refine (C2.out _).mono ?_
  rintro r w3 ⟨rfl, hb3⟩
  have hs3 : w2.heap.size < w3.heap.size := by have := hb3.size; simp at this; omega
  have hr3 := (hr2.alloc _).below hb3 (by simp; omega)
  have hl3 : RowAt w3 w2.heap.size 48 #[.int .u8 2, .int .i64 24, .int .i64 (n2 : Int), .int .i64 16] := (RowAt.new w2 _ _).below hb3 (by simp)
  have b3 : Below w.heap.size w w3 := (b2.alloc b2.size _).trans (hb3.mono (by simp; omega))
  clear q2 hr2 hb3 b2
  go_wp2_with fail
  refine (C3.out _).mono ?_
  rintro r w4 ⟨rfl, hb4⟩
  have hs4 : w3.heap.size < w4.heap.size := by have := hb4.size; simp at this; omega
  have hr4 := (hr3.alloc _).below hb4 (by simp; omega)
  have hl4 := (hl3.alloc _).below hb4 (by simp; omega)
  have b4 : Below w.heap.size w w4 := (b3.alloc b3.size _).trans (hb4.mono (by simp; omega))
  clear hr3 hl3 hb4 b3
  go_wp2_with fail
  refine (C4.out _).mono ?_
  rintro r w5 ⟨rfl, hb5⟩
  have hs5 : w4.heap.size ≤ w5.heap.size := hb5.size
  have hr5 := hr4.below hb5 (by omega)
  have hl5 := hl4.below hb5 (by omega)
  have b5 : Below w.heap.size w w5 := b4.trans (hb5.mono b4.size)
  clear hr4 hl4 hb5 b4
  have hcv := own_lit (w5.alloc (.cells #[.int .u8 0, .int .u8 255, .int .u8 255, .int .u8 255, .int .u8 255, .int .u8 255, .int .u8 255, .int .u8 255, .int .u8 255, .int .u8 255, .int .u8 255, .int .u8 0] 56)) syncL #[.int .u8 0, .int .u8 255, .int .u8 255, .int .u8 255, .int .u8 255, .int .u8 255, .int .u8 255, .int .u8 255, .int .u8 255, .int .u8 255, .int .u8 255, .int .u8 0] 12 rfl rfl (by unfold maxLen; omega) _ w5.heap.size (RowAt.new _ _ _)
  go_wp2_with fail
  have hr6 := (hr5.alloc (.cells #[.int .u8 0, .int .u8 255, .int .u8 255, .int .u8 255, .int .u8 255, .int .u8 255, .int .u8 255, .int .u8 255, .int .u8 255, .int .u8 255, .int .u8 255, .int .u8 0] 56)).alloc (.cells #[.string ⟨syncL.toArray⟩] 9)
  have hl6 := (hl5.alloc (.cells #[.int .u8 0, .int .u8 255, .int .u8 255, .int .u8 255, .int .u8 255, .int .u8 255, .int .u8 255, .int .u8 255, .int .u8 255, .int .u8 255, .int .u8 255, .int .u8 0] 56)).alloc (.cells #[.string ⟨syncL.toArray⟩] 9)
  have ht6 := RowAt.new (w5.alloc (.cells #[.int .u8 0, .int .u8 255, .int .u8 255, .int .u8 255, .int .u8 255, .int .u8 255, .int .u8 255, .int .u8 255, .int .u8 255, .int .u8 255, .int .u8 255, .int .u8 0] 56)) 9 #[.string ⟨syncL.toArray⟩]
  rw [World.size_alloc] at ht6
  have b6 := (b5.alloc b5.size (.cells #[.int .u8 0, .int .u8 255, .int .u8 255, .int .u8 255, .int .u8 255, .int .u8 255, .int .u8 255, .int .u8 255, .int .u8 255, .int .u8 255, .int .u8 255, .int .u8 0] 56)).alloc (by have := b5.size; simp; omega) (.cells #[.string ⟨syncL.toArray⟩] 9)
  generalize ((w5.alloc (.cells #[.int .u8 0, .int .u8 255, .int .u8 255, .int .u8 255, .int .u8 255, .int .u8 255, .int .u8 255, .int .u8 255, .int .u8 255, .int .u8 255, .int .u8 255, .int .u8 0] 56)).alloc (.cells #[.string ⟨syncL.toArray⟩] 9)) = w6 at *
  have hg1 : w.heap.size < w5.heap.size + 1 := by omega
  have hg2 : w2.heap.size < w5.heap.size + 1 := by omega
  generalize w5.heap.size + 1 = g at *
  clear hr5 hl5 b5 hcv
  have hsl : syncL.length = 12 := rfl
  have HSL := Lib.hid hsl
  clear hsl
  refine (add_any syncL MS g _ ht6 (by have := HSL.out; have := HML.out; omega)).mono ?_
  rintro r w7 ⟨rfl, ht7, ho7⟩
  have hr7 := ho7.row hr6 (by omega)
  have hl7 := ho7.row hl6 (by omega)
  have b7 : Below w.heap.size w w7 := ho7.below b6 (by omega)
  have qr := hr7.cell
  have ql := hl7.cell
  have qt := ht7.cell
  clear hr6 hl6 ht6 ho7 b6
  have hlt7 : w2.heap.size < w7.heap.size := hl7.lt
  have hcv7 := own_lit (w7.alloc (.cells #[.int .u8 2] 5)) [2] #[.int .u8 2] 1 rfl rfl (by unfold maxLen; omega) _ w7.heap.size (RowAt.new _ _ _)
  go_wp2_with fail
  have hr8 := hr7.alloc (.cells #[.int .u8 2] 5)
  have hl8 := hl7.alloc (.cells #[.int .u8 2] 5)
  have ht8 := ht7.alloc (.cells #[.int .u8 2] 5)
  have b8 := b7.alloc b7.size (.cells #[.int .u8 2] 5)
  generalize (w7.alloc (.cells #[.int .u8 2] 5)) = w8 at *
  clear hcv7 hr7 hl7 ht7 b7 qr ql qt
  have ca := add_any (syncL ++ MS) [2] g _ ht8 (by have := HSL.out; have := HML.out; simp; omega)
  refine ca.mono ?_
  clear ca
  rintro r w9 ⟨rfl, ht9, ho9⟩
  have hr9 := ho9.row hr8 (by omega)
  have hl9 := ho9.row hl8 (by omega)
  have b9 : Below w.heap.size w w9 := ho9.below b8 (by omega)
  have hs9 : w.heap.size < w9.heap.size := hr9.lt
  have hv9 : w2.heap.size < w9.heap.size := hl9.lt
  have hu9 : g < w9.heap.size := ht9.lt
  have qr := hr9.cell
  have ql := hl9.cell
  have qt := ht9.cell
  clear hr8 hl8 ht8 ho9 b8
  have hcv9 := own_lit (w9.alloc (.cells #[.int .u8 fi, .int .u8 ch, .int .u8 su, .int .u8 co] 5)) SB #[.int .u8 fi, .int .u8 ch, .int .u8 su, .int .u8 co] 4 HSBL.out (by rw [HSB.out]; simp [byteV]; omega) (by unfold maxLen; omega) _ w9.heap.size (RowAt.new _ _ _)
  have hsz9 : (⟨SB.toArray⟩ : ByteArray).size ≤ 4 := by rw [str_size]; have := HSBL.out; omega
  go_wp2_with fail
  have hr29 := hr9.alloc (.cells #[.int .u8 fi, .int .u8 ch, .int .u8 su, .int .u8 co] 5)
  have hl29 := hl9.alloc (.cells #[.int .u8 fi, .int .u8 ch, .int .u8 su, .int .u8 co] 5)
  have ht29 := ht9.alloc (.cells #[.int .u8 fi, .int .u8 ch, .int .u8 su, .int .u8 co] 5)
  have b29 := b9.alloc b9.size (.cells #[.int .u8 fi, .int .u8 ch, .int .u8 su, .int .u8 co] 5)
  generalize (w9.alloc (.cells #[.int .u8 fi, .int .u8 ch, .int .u8 su, .int .u8 co] 5)) = w29 at *
  clear hr9 hl9 ht9 b9 qr ql qt hcv9
  have ca := add_any (syncL ++ MS ++ [2]) (SB ++ SB) g _ ht29 (by have := HSL.out; have := HML.out; have := HSBL.out; simp only [List.length_append, List.length_cons, List.length_nil]; omega)
  rw [← str_append] at ca
  refine ca.mono ?_
  clear ca
  rintro r w39 ⟨rfl, ht39, ho39⟩
  have hr39 := ho39.row hr29 (by omega)
  have hl39 := ho39.row hl29 (by omega)
  have b39 : Below w.heap.size w w39 := ho39.below b29 (by omega)
  have hs39 : w.heap.size < w39.heap.size := hr39.lt
  have hv39 : w2.heap.size < w39.heap.size := hl39.lt
  have hu39 : g < w39.heap.size := ht39.lt
  have qr := hr39.cell
  have ql := hl39.cell
  have qt := ht39.cell
  clear hr29 hl29 ht29 ho39 b29
  go_wp2_with fail
  have ca := add_any (syncL ++ MS ++ [2] ++ (SB ++ SB)) data.data.toList g _ ht39 (by have := HSL.out; have := HML.out; have := HDL.out; have := HSBL.out; simp only [List.length_append, List.length_cons, List.length_nil]; omega)
  rw [show (⟨data.data.toList.toArray⟩ : ByteArray) = data by simp] at ca
  refine ca.mono ?_
  clear ca
  rintro r w10 ⟨rfl, ht10, ho10⟩
  have hr10 := ho10.row hr39 (by omega)
  have hl10 := ho10.row hl39 (by omega)
  have b10 : Below w.heap.size w w10 := ho10.below b39 (by omega)
  have hs10 : w.heap.size < w10.heap.size := hr10.lt
  have hv10 : w2.heap.size < w10.heap.size := hl10.lt
  have hu10 : g < w10.heap.size := ht10.lt
  have qr := hr10.cell
  have ql := hl10.cell
  have qt := ht10.cell
  clear hr39 hl39 ht39 ho10 b39
  rw [← HPRE.out] at ht10 qt
  have hpl : PRE.length = 24 + n2 := by rw [HPRE.out]; have := HSL.out; have := HML.out; have := HDL.out; have := HSBL.out; simp only [List.length_append, List.length_cons, List.length_nil]; omega
  have HPL := Lib.hid hpl
  have C5 : Hid (∀ w, Calls Try.prog 31 #[.string ⟨PRE.toArray⟩, .int .i64 16] w fun e w' => e = .returned (.string ⟨(codeL PRE 16).toArray⟩) ∧ Below w.heap.size w w') := fun w => code_any ⟨PRE.toArray⟩ 16 w (by rw [str_size]; omega) (by rw [str_size]; omega)
  clear hpl
  go_wp2_with fail
  refine (C5.out _).mono ?_
  rintro r w11 ⟨rfl, hb11⟩
  have hr11 := hr10.below hb11 hs10
  have hl11 := hl10.below hb11 hv10
  have ht11 := ht10.below hb11 hu10
  have b11 : Below w.heap.size w w11 := b10.trans (hb11.mono b10.size)
  clear hr10 hl10 ht10 b10 qr ql qt
  have hcl : (codeL PRE 16).length = 4 := rfl
  have HCL := Lib.hid hcl
  clear hcl
  go_wp2_with fail
  have ca := add_any PRE (codeL PRE 16) g _ ht11 (by have := HPL.out; have := HCL.out; omega)
  refine ca.mono ?_
  clear ca
  rintro r w12 ⟨rfl, ht12, ho12⟩
  have hr12 := ho12.row hr11 (by omega)
  have hl12 := ho12.row hl11 (by omega)
  have b12 : Below w.heap.size w w12 := ho12.below b11 (by omega)
  have hs12 : w.heap.size < w12.heap.size := hr12.lt
  have hv12 : w2.heap.size < w12.heap.size := hl12.lt
  have hu12 : g < w12.heap.size := ht12.lt
  have qr := hr12.cell
  have ql := hl12.cell
  have qt := ht12.cell
  clear hr11 hl11 ht11 ho12 b11
  rw [← HCOD.out] at ht12 qt
  have hcl : COD.length = 28 + n2 := by rw [HCOD.out, List.length_append, HPL.out, HCL.out]; omega
  have hmk := zeros_make (2324 - n2) w12 (by omega)
  rw [show ((2324 - n2 : Nat) : Int) = 2324 - (n2 : Int) by omega] at hmk
  have hbd : BLD = COD ++ List.replicate (2324 - n2) 0 := by rw [HBLD.out, hcl, show 2352 - (28 + n2) = 2324 - n2 by omega]
  have hzl : (List.replicate (2324 - n2) (0 : UInt8)).length = 2324 - n2 := List.length_replicate
  generalize List.replicate (2324 - n2) (0 : UInt8) = Z at *
  obtain ⟨w13, hmk, hcv13, hb13⟩ := hmk
  have HBD := Lib.hid hbd
  have HL2 := Lib.hid hcl
  have HZL := Lib.hid hzl
  have hI : ((COD.length : Nat) : Int) = 28 + (n2 : Int) := by omega
  have hI2 : 2352 - (28 + (n2 : Int)) = 2324 - (n2 : Int) := by omega
  clear hbd HBLD HCOD HPRE hzl hcl
  go_wp2_with fail
  have hr13 := hr12.below hb13 hs12
  have hl13 := hl12.below hb13 hv12
  have ht13 := ht12.below hb13 hu12
  have b13 : Below w.heap.size w w13 := b12.trans (hb13.mono b12.size)
  have ca := add_any COD Z g _ ht13 (by have := HL2.out; have := HZL.out; omega)
  refine ca.mono ?_
  rintro r w14 ⟨rfl, ht14, ho14⟩
  have b14 : Below w.heap.size w w14 := ho14.below b13 (by omega)
  rw [← HBD.out] at ht14
  have qt := ht14.cell
  clear ca hr12 hl12 ht12 b12 ql qr
  go_wp2_with fail
  go_ret2
  exact ⟨rfl, b14⟩
end Go.Proofs.Ytdjpnabkmanboaa
