/-
  Build of the program.
-/
import Derived.Test.YtdjpnabkmanboaaKind
import Derived.Laws.OwnMore
namespace Go.Proofs.Ytdjpnabkmanboaa
open Go.RowKit
set_option linter.unusedVariables false

theorem str_append (l r : List UInt8) : (⟨l.toArray⟩ : ByteArray) ++ ⟨r.toArray⟩ = ⟨(l ++ r).toArray⟩ := by
  apply ByteArray.ext
  rw [ByteArray.data_append]
  simp
theorem str_size (l : List UInt8) : (⟨l.toArray⟩ : ByteArray).size = l.length := by simp [ByteArray.size]

/-- What a store into one block leaves alone. -/
def Only (g : Nat) (w w' : World) : Prop := (∀ b t cs, b ≠ g → RowAt w b t cs → RowAt w' b t cs) ∧ (∀ B a, B ≤ g → Below B a w → Below B a w') ∧ w.heap.size = w'.heap.size
theorem Only.row {g : Nat} {w w' : World} (h : Only g w w') {b : Nat} {t : TypeId} {cs : Array Value} (hr : RowAt w b t cs) (hb : b ≠ g) : RowAt w' b t cs := h.1 b t cs hb hr
theorem Only.below {g : Nat} {w w' a : World} (h : Only g w w') {B : Nat} (hb : Below B a w) (hg : B ≤ g) : Below B a w' := h.2.1 B a hg hb

theorem add_any (l r : List UInt8) (g : Nat) (w : World) (hr : RowAt w g 9 #[.string ⟨l.toArray⟩]) (hl : l.length + r.length ≤ 100000) :
    Calls Try.prog 30 #[.string ⟨r.toArray⟩, .pointer (some ⟨g, 0, none⟩)] w fun e w' => e = .returned (.tuple #[]) ∧ RowAt w' g 9 #[.string ⟨(l ++ r).toArray⟩] ∧ Only g w w' := by
  have hc : w.cell? ⟨g, 0, none⟩ = some (.string ⟨l.toArray⟩) := hr.cell 0
  have hf := hr.frozen 0
  have hs1 : (⟨l.toArray⟩ : ByteArray).size ≤ 100000 := by rw [str_size]; omega
  have hs2 : (⟨r.toArray⟩ : ByteArray).size ≤ 100000 := by rw [str_size]; omega
  have HA := Lib.hid (str_append l r)
  have HR := Lib.hid hr
  clear hr
  generalize (⟨l.toArray⟩ : ByteArray) = s at *
  generalize (⟨r.toArray⟩ : ByteArray) = t at *
  go_enter Try.func30, Try.ntmps30
  go_wp2_with fail
  go_end0
  refine ⟨rfl, ?_, fun b u cs hb hr => hr.far (by exact hb) _, fun B a hg hb => hb.setCell (p := ⟨g, 0, none⟩) hg _, by simp [World.setCell]⟩
  rw [← HA.out]
  exact HR.out.set_ 0 _

theorem zero_cells (n : Nat) : (madeCells (Value.int .u8 0).cells n).toList = (List.replicate n (0 : UInt8)).map byteV := by
  apply List.ext_getElem?
  intro i
  simp [madeCells, List.getElem?_replicate, Value.cells, byteV]
  by_cases h : i < n
  · simp [h, Nat.mod_one]
  · simp [h]
theorem info_u8 : (Try.prog.info? 5).map (fun i => (i.zero, i.size, i.bytes)) = some (some (.int .u8 0), 1, 1) := by kernel_rfl
/-- 'string(make([]byte, n))'. -/
theorem zeros_make (n : Nat) (w : World) (hn : n ≤ 100000) : ∃ w', (Instr.makeSlice 42 (.int .i64 (n : Int)) (.int .i64 (n : Int))).run Try.prog w = .ok (.slice (some ⟨w.heap.size, 0, none⟩) n n) w' ∧
    (convert 42 9 (.slice (some ⟨w.heap.size, 0, none⟩) n n)).run Try.prog w' = .ok (.string ⟨(List.replicate n (0 : UInt8)).toArray⟩) w' ∧ Below w.heap.size w w' := by
  obtain ⟨i0, hi, hz0, hz1, hz2⟩ := info_parts info_u8
  obtain ⟨w', hrun, hown, hg⟩ := run_make_full (P := Try.prog) w w.heap.size 42 5 i0 (.int .u8 0) 1 Try.underlying42 hi hz0 hz1 .i64 .i64 n (by rw [hz2]; omega) (by unfold maxLen; omega) (Nat.le_refl _)
  rw [Nat.mul_one, zero_cells] at hown
  exact ⟨w', hrun, own_string _ _ _ _ Try.underlying42 Try.underlying5 Try.underlying9 hown, (Below.refl _ _).grown hg (Nat.le_refl _) (by simp)⟩
theorem own_lit (w : World) (bs : List UInt8) (cells : Array Value) (n : Nat) (hn : bs.length = n) (hc : cells.toList = bs.map byteV) (hm : n ≤ maxLen) (t : TypeId) (g : Nat) (hr : RowAt w g t cells) :
    (convert 42 9 (.slice (some ⟨g, 0, none⟩) n n)).run Try.prog w = .ok (.string ⟨bs.toArray⟩) w := by
  subst hn
  refine run_convert_bytes_back w 42 9 5 ⟨g, 0, none⟩ bs.length bs Try.underlying42 Try.underlying5 Try.underlying9 fun j hj => ?_
  have hadd : (⟨g, 0, none⟩ : Addr).add j = ⟨g, j, none⟩ := by unfold Addr.add; split <;> simp_all
  rw [hadd, hr.cell j, ← Array.getElem?_toList, hc]
  simp [hj, byteV]

/-- The bytes ahead of the code of a sector. -/
def headL (x : Sec) : List UInt8 := syncL ++ msfBs ((x.lba + 150) / 75 / 60) ((x.lba + 150) / 75 % 60) ((x.lba + 150) % 75) ++ [UInt8.ofNat (lByte x.mode).toNat]
def subBs (x : Sec) : List UInt8 := [UInt8.ofNat x.fi.toNat, UInt8.ofNat x.ch.toNat, UInt8.ofNat x.su.toNat, UInt8.ofNat x.co.toNat]
def preL (x : Sec) : List UInt8 := if x.mode = 0 then headL x ++ x.data.data.toList else headL x ++ (subBs x ++ subBs x) ++ x.data.data.toList
def codedL (x : Sec) : List UInt8 := preL x ++ codeL (preL x) (lCov x.mode).toNat
def buildL (x : Sec) : List UInt8 := codedL x ++ List.replicate (2352 - (codedL x).length) 0

set_option maxRecDepth 100000 in
set_option maxHeartbeats 4000000 in
theorem build_one (x : Sec) (w : World) (hn : -9223372036854775808 ≤ x.lba) (hv : validB x = true) (hm : x.mode = 0) (h1 : -150 ≤ x.lba) (h2 : x.lba ≤ 449849) (h3 : x.data.size = 2048) :
    Calls Try.prog 11 #[secV x] w fun e w' => e = .returned (.tuple #[.string ⟨(buildL x).toArray⟩, .int .i64 0]) ∧ Below w.heap.size w w' := by
  have CV : Hid (∀ w, Calls Try.prog 13 #[secV x] w fun e w' => e = .returned (.bool true) ∧ Below w.heap.size w w') := by
    have := fun w => valid7_any x w hn (by omega)
    rwa [hv] at this
  obtain ⟨lba, mode, fi, ch, su, co, data⟩ := x
  dsimp only at *
  subst hm
  have C1 : Hid (∀ w, Calls Try.prog 26 #[.int .i64 0] w fun e w' => e = .returned (.tuple #[.agg #[.int .u8 1, .int .i64 16, .int .i64 2048, .int .i64 0], .bool true]) ∧ Below w.heap.size w w') := fun w => layouts_ok 0 w rfl
  have C2 := Lib.hid (fun w => tomsf_ok lba w h1 h2)
  have hok := msfN_ok (n := lba + 150) (by omega) (by omega)
  have C3 := Lib.hid (fun w => encode_any ((lba + 150) / 75 / 60) ((lba + 150) / 75 % 60) ((lba + 150) % 75) w hok)
  have C4 : Hid (∀ w, Calls Try.prog 29 #[] w fun e w' => e = .returned (.agg #[.int .u8 0, .int .u8 255, .int .u8 255, .int .u8 255, .int .u8 255, .int .u8 255, .int .u8 255, .int .u8 255, .int .u8 255, .int .u8 255, .int .u8 255, .int .u8 0]) ∧ Below w.heap.size w w') := fun w => sync_any w
  have hml : (msfBs ((lba + 150) / 75 / 60) ((lba + 150) / 75 % 60) ((lba + 150) % 75)).length = 3 := rfl
  have hhead : headL ⟨lba, 0, fi, ch, su, co, data⟩ = syncL ++ msfBs ((lba + 150) / 75 / 60) ((lba + 150) / 75 % 60) ((lba + 150) % 75) ++ [1] := rfl
  have hpre : preL ⟨lba, 0, fi, ch, su, co, data⟩ = headL ⟨lba, 0, fi, ch, su, co, data⟩ ++ data.data.toList := rfl
  have hcd : codedL ⟨lba, 0, fi, ch, su, co, data⟩ = preL ⟨lba, 0, fi, ch, su, co, data⟩ ++ codeL (preL ⟨lba, 0, fi, ch, su, co, data⟩) 0 := rfl
  have hbl : buildL ⟨lba, 0, fi, ch, su, co, data⟩ = codedL ⟨lba, 0, fi, ch, su, co, data⟩ ++ List.replicate (2352 - (codedL ⟨lba, 0, fi, ch, su, co, data⟩).length) 0 := rfl
  have hdl : data.data.toList.length = 2048 := by simpa using h3
  rw [secV] at CV ⊢
  rw [msfV] at C2 C3
  rw [hhead] at hpre
  generalize preL ⟨lba, 0, fi, ch, su, co, data⟩ = PRE at *
  generalize codedL ⟨lba, 0, fi, ch, su, co, data⟩ = COD at *
  generalize buildL ⟨lba, 0, fi, ch, su, co, data⟩ = BLD at *
  generalize msfBs ((lba + 150) / 75 / 60) ((lba + 150) / 75 % 60) ((lba + 150) % 75) = MS at *
  generalize (lba + 150) / 75 / 60 = m0 at *
  generalize (lba + 150) / 75 % 60 = m1 at *
  generalize (lba + 150) % 75 = m2 at *
  have HPRE := Lib.hid hpre
  have HCOD := Lib.hid hcd
  have HBLD := Lib.hid hbl
  have HML := Lib.hid hml
  have HDL := Lib.hid hdl
  clear hv hok hpre hcd hbl hhead hml hdl
  go_enter Try.func11, Try.ntmps11
  go_wp2_with fail
  refine (CV.out _).mono ?_
  rintro r w1 ⟨rfl, hb1⟩
  have hs1 : w.heap.size < w1.heap.size := by have := hb1.size; simp at this; omega
  have hr1 : RowAt w1 w.heap.size 25 _ := (RowAt.new w _ _).below hb1 (by simp)
  have q1 := hr1.cell
  have b1 : Below w.heap.size w w1 := ((Below.refl _ _).alloc (Nat.le_refl _) _).trans (hb1.mono (by simp))
  go_wp2_with fail
  refine (C1.out _).mono ?_
  rintro r w2 ⟨rfl, hb2⟩
  have hs2 : w.heap.size < w2.heap.size := by have := hb2.size; omega
  have hr2 := hr1.below hb2 hs1
  have q2 := hr2.cell
  have b2 : Below w.heap.size w w2 := b1.trans (hb2.mono b1.size)
  clear q1 hr1 hb1 hb2 b1
  go_wp2_with fail
  refine (C2.out _).mono ?_
  rintro r w3 ⟨rfl, hb3⟩
  have hs3 : w2.heap.size < w3.heap.size := by have := hb3.size; simp at this; omega
  have hr3 := (hr2.alloc _).below hb3 (by simp; omega)
  have hl3 : RowAt w3 w2.heap.size 48 #[.int .u8 1, .int .i64 16, .int .i64 2048, .int .i64 0] := (RowAt.new w2 _ _).below hb3 (by simp)
  have b3 : Below w.heap.size w w3 := (b2.alloc b2.size _).trans (hb3.mono (by simp; omega))
  clear q2 hr2 hb3 b2
  go_wp2_with fail
  refine (C3.out _).mono ?_
  rintro r w4 ⟨rfl, hb4⟩
  have hs4 : w3.heap.size < w4.heap.size := by have := hb4.size; simp at this; omega
  have hr4 := (hr3.alloc _).below hb4 (by simp; omega)
  have hl4 := (hl3.alloc _).below hb4 (by simp; omega)
  have b4 : Below w.heap.size w w4 := (b3.alloc b3.size _).trans (hb4.mono (by simp; omega))
  clear hr3 hl3 hb4 b3
  go_wp2_with fail
  refine (C4.out _).mono ?_
  rintro r w5 ⟨rfl, hb5⟩
  have hs5 : w4.heap.size ≤ w5.heap.size := hb5.size
  have hr5 := hr4.below hb5 (by omega)
  have hl5 := hl4.below hb5 (by omega)
  have b5 : Below w.heap.size w w5 := b4.trans (hb5.mono b4.size)
  clear hr4 hl4 hb5 b4
  have hcv := own_lit (w5.alloc (.cells #[.int .u8 0, .int .u8 255, .int .u8 255, .int .u8 255, .int .u8 255, .int .u8 255, .int .u8 255, .int .u8 255, .int .u8 255, .int .u8 255, .int .u8 255, .int .u8 0] 56)) syncL #[.int .u8 0, .int .u8 255, .int .u8 255, .int .u8 255, .int .u8 255, .int .u8 255, .int .u8 255, .int .u8 255, .int .u8 255, .int .u8 255, .int .u8 255, .int .u8 0] 12 rfl rfl (by unfold maxLen; omega) _ w5.heap.size (RowAt.new _ _ _)
  go_wp2_with fail
  have hr6 := (hr5.alloc (.cells #[.int .u8 0, .int .u8 255, .int .u8 255, .int .u8 255, .int .u8 255, .int .u8 255, .int .u8 255, .int .u8 255, .int .u8 255, .int .u8 255, .int .u8 255, .int .u8 0] 56)).alloc (.cells #[.string ⟨syncL.toArray⟩] 9)
  have hl6 := (hl5.alloc (.cells #[.int .u8 0, .int .u8 255, .int .u8 255, .int .u8 255, .int .u8 255, .int .u8 255, .int .u8 255, .int .u8 255, .int .u8 255, .int .u8 255, .int .u8 255, .int .u8 0] 56)).alloc (.cells #[.string ⟨syncL.toArray⟩] 9)
  have ht6 := RowAt.new (w5.alloc (.cells #[.int .u8 0, .int .u8 255, .int .u8 255, .int .u8 255, .int .u8 255, .int .u8 255, .int .u8 255, .int .u8 255, .int .u8 255, .int .u8 255, .int .u8 255, .int .u8 0] 56)) 9 #[.string ⟨syncL.toArray⟩]
  rw [World.size_alloc] at ht6
  have b6 := (b5.alloc b5.size (.cells #[.int .u8 0, .int .u8 255, .int .u8 255, .int .u8 255, .int .u8 255, .int .u8 255, .int .u8 255, .int .u8 255, .int .u8 255, .int .u8 255, .int .u8 255, .int .u8 0] 56)).alloc (by have := b5.size; simp; omega) (.cells #[.string ⟨syncL.toArray⟩] 9)
  generalize ((w5.alloc (.cells #[.int .u8 0, .int .u8 255, .int .u8 255, .int .u8 255, .int .u8 255, .int .u8 255, .int .u8 255, .int .u8 255, .int .u8 255, .int .u8 255, .int .u8 255, .int .u8 0] 56)).alloc (.cells #[.string ⟨syncL.toArray⟩] 9)) = w6 at *
  have hg1 : w.heap.size < w5.heap.size + 1 := by omega
  have hg2 : w2.heap.size < w5.heap.size + 1 := by omega
  generalize w5.heap.size + 1 = g at *
  clear hr5 hl5 b5 hcv
  have hsl : syncL.length = 12 := rfl
  have HSL := Lib.hid hsl
  clear hsl
  refine (add_any syncL MS g _ ht6 (by have := HSL.out; have := HML.out; omega)).mono ?_
  rintro r w7 ⟨rfl, ht7, ho7⟩
  have hr7 := ho7.row hr6 (by omega)
  have hl7 := ho7.row hl6 (by omega)
  have b7 : Below w.heap.size w w7 := ho7.below b6 (by omega)
  have qr := hr7.cell
  have ql := hl7.cell
  have qt := ht7.cell
  clear hr6 hl6 ht6 ho7 b6
  have hlt7 : w2.heap.size < w7.heap.size := hl7.lt
  have hcv7 := own_lit (w7.alloc (.cells #[.int .u8 1] 5)) [1] #[.int .u8 1] 1 rfl rfl (by unfold maxLen; omega) _ w7.heap.size (RowAt.new _ _ _)
  go_wp2_with fail
  have hr8 := hr7.alloc (.cells #[.int .u8 1] 5)
  have hl8 := hl7.alloc (.cells #[.int .u8 1] 5)
  have ht8 := ht7.alloc (.cells #[.int .u8 1] 5)
  have b8 := b7.alloc b7.size (.cells #[.int .u8 1] 5)
  generalize (w7.alloc (.cells #[.int .u8 1] 5)) = w8 at *
  clear hcv7 hr7 hl7 ht7 b7 qr ql qt
  have ca := add_any (syncL ++ MS) [1] g _ ht8 (by have := HSL.out; have := HML.out; simp; omega)
  refine ca.mono ?_
  clear ca
  rintro r w9 ⟨rfl, ht9, ho9⟩
  have hr9 := ho9.row hr8 (by omega)
  have hl9 := ho9.row hl8 (by omega)
  have b9 : Below w.heap.size w w9 := ho9.below b8 (by omega)
  have hs9 : w.heap.size < w9.heap.size := hr9.lt
  have hv9 : w2.heap.size < w9.heap.size := hl9.lt
  have hu9 : g < w9.heap.size := ht9.lt
  have qr := hr9.cell
  have ql := hl9.cell
  have qt := ht9.cell
  clear hr8 hl8 ht8 ho9 b8
  go_wp2_with fail
  have ca := add_any (syncL ++ MS ++ [1]) data.data.toList g _ ht9 (by have := HSL.out; have := HML.out; have := HDL.out; simp only [List.length_append, List.length_cons, List.length_nil]; omega)
  rw [show (⟨data.data.toList.toArray⟩ : ByteArray) = data by simp] at ca
  refine ca.mono ?_
  clear ca
  rintro r w10 ⟨rfl, ht10, ho10⟩
  have hr10 := ho10.row hr9 (by omega)
  have hl10 := ho10.row hl9 (by omega)
  have b10 : Below w.heap.size w w10 := ho10.below b9 (by omega)
  have hs10 : w.heap.size < w10.heap.size := hr10.lt
  have hv10 : w2.heap.size < w10.heap.size := hl10.lt
  have hu10 : g < w10.heap.size := ht10.lt
  have qr := hr10.cell
  have ql := hl10.cell
  have qt := ht10.cell
  clear hr9 hl9 ht9 ho10 b9
  rw [← HPRE.out] at ht10 qt
  have hpl : PRE.length = 2064 := by rw [HPRE.out]; have := HSL.out; have := HML.out; have := HDL.out; simp only [List.length_append, List.length_cons, List.length_nil]; omega
  have HPL := Lib.hid hpl
  have C5 : Hid (∀ w, Calls Try.prog 31 #[.string ⟨PRE.toArray⟩, .int .i64 0] w fun e w' => e = .returned (.string ⟨(codeL PRE 0).toArray⟩) ∧ Below w.heap.size w w') := fun w => code_any ⟨PRE.toArray⟩ 0 w (Nat.zero_le _) (by rw [str_size]; omega)
  clear hpl
  go_wp2_with fail
  refine (C5.out _).mono ?_
  rintro r w11 ⟨rfl, hb11⟩
  have hr11 := hr10.below hb11 hs10
  have hl11 := hl10.below hb11 hv10
  have ht11 := ht10.below hb11 hu10
  have b11 : Below w.heap.size w w11 := b10.trans (hb11.mono b10.size)
  clear hr10 hl10 ht10 b10 qr ql qt
  have hcl : (codeL PRE 0).length = 4 := rfl
  have HCL := Lib.hid hcl
  clear hcl
  go_wp2_with fail
  have ca := add_any PRE (codeL PRE 0) g _ ht11 (by have := HPL.out; have := HCL.out; omega)
  refine ca.mono ?_
  clear ca
  rintro r w12 ⟨rfl, ht12, ho12⟩
  have hr12 := ho12.row hr11 (by omega)
  have hl12 := ho12.row hl11 (by omega)
  have b12 : Below w.heap.size w w12 := ho12.below b11 (by omega)
  have hs12 : w.heap.size < w12.heap.size := hr12.lt
  have hv12 : w2.heap.size < w12.heap.size := hl12.lt
  have hu12 : g < w12.heap.size := ht12.lt
  have qr := hr12.cell
  have ql := hl12.cell
  have qt := ht12.cell
  clear hr11 hl11 ht11 ho12 b11
  rw [← HCOD.out] at ht12 qt
  have hcl : COD.length = 2068 := by rw [HCOD.out, List.length_append, HPL.out, HCL.out]
  have hcs : (⟨COD.toArray⟩ : ByteArray).size = 2068 := by rw [str_size]; exact hcl
  have hmk := zeros_make 284 w12 (by omega)
  rw [show ((284 : Nat) : Int) = 284 from rfl] at hmk
  have hbd : BLD = COD ++ List.replicate 284 0 := by rw [HBLD.out, hcl]
  have hzl : (List.replicate 284 (0 : UInt8)).length = 284 := List.length_replicate
  generalize List.replicate 284 (0 : UInt8) = Z at *
  obtain ⟨w13, hmk, hcv13, hb13⟩ := hmk
  have HBD := Lib.hid hbd
  have HL2 := Lib.hid hcl
  have HZL := Lib.hid hzl
  have hI : ((COD.length : Nat) : Int) = 2068 := by omega
  clear hbd HBLD HCOD HPRE hzl hcl hcs
  go_wp2_with fail
  have hr13 := hr12.below hb13 hs12
  have hl13 := hl12.below hb13 hv12
  have ht13 := ht12.below hb13 hu12
  have b13 : Below w.heap.size w w13 := b12.trans (hb13.mono b12.size)
  have ca := add_any COD Z g _ ht13 (by have := HL2.out; have := HZL.out; omega)
  refine ca.mono ?_
  rintro r w14 ⟨rfl, ht14, ho14⟩
  have b14 : Below w.heap.size w w14 := ho14.below b13 (by omega)
  rw [← HBD.out] at ht14
  have qt := ht14.cell
  clear ca hr12 hl12 ht12 b12 ql qr
  go_wp2_with fail
  go_ret2
  exact ⟨rfl, b14⟩
end Go.Proofs.Ytdjpnabkmanboaa
