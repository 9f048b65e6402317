/-
  sector: chapters 2 and 7, the program alone (gen_sec.py).
-/
import Derived.Test.YtlnjphggfbiabaaGreatSe2
import Derived.Deep.DrawnRows
import Derived.Deep.RegionHeld3
import Derived.Handy
import Derived.Laws.OwnMore
namespace Go.Proofs.YtlnjphggfbiabaaGreat
open Go.RowKit
set_option linter.unusedVariables false
attribute [local go_sem ↓] Go.wp_at_zero Go.wp_at_succ

theorem bcell7? (s : ByteArray) (i : Nat) (h : i < s.size) : s.data.toList[i]? = some s[i] := bytes_get s i h
theorem and32u_fin : ∀ k : Fin 256, bits BinOp.and IntKind.u8 (k.val : Int) 32 = if (k.val : Int) / 32 % 2 = 1 then 32 else 0 := by decide +kernel
theorem and32u (b : UInt8) : bits BinOp.and IntKind.u8 (b.toNat : Int) 32 = if (b.toNat : Int) / 32 % 2 = 1 then 32 else 0 := and32u_fin ⟨b.toNat, b.toNat_lt⟩

/-- The mode of a raw sector, or the error. -/
def kindR (s : ByteArray) : Int × Int :=
  if h : s.size = 2352 then
    if (s[15]'(by omega)).toNat = 1 then (0, 0) else if (s[15]'(by omega)).toNat ≠ 2 then (0, 10) else
      if (s[18]'(by omega)).toNat / 32 % 2 = 1 then (2, 0) else (1, 0)
  else (0, 1)

set_option maxHeartbeats 1000000 in
theorem kind_any (s : ByteArray) (w : World) (hs : s.size ≤ 140737488351232) :
    Calls Tryz.prog 48 #[.string s] w fun e w' => e = .returned (.tuple #[.int .i64 (kindR s).1, .int .i64 (kindR s).2]) ∧ w = w' := by
  by_cases h : s.size = 2352
  · have hz : ((s.size : Int) != 2352) = false := by rw [h]; rfl
    have l15 : 15 < s.size := by omega
    have l18 : 18 < s.size := by omega
    obtain ⟨b15, e15⟩ : ∃ b, s[15] = b := ⟨_, rfl⟩
    obtain ⟨b18, e18⟩ : ∃ b, s[18] = b := ⟨_, rfl⟩
    have hk : kindR s = if b15.toNat = 1 then (0, 0) else if b15.toNat ≠ 2 then (0, 10) else if b18.toNat / 32 % 2 = 1 then (2, 0) else (1, 0) := by
      unfold kindR
      rw [dif_pos h, e15, e18]
    have ha := and32u b18
    by_cases h1 : b15.toNat = 1
    · rw [hk, if_pos h1]
      have t1 : ((b15.toNat : Int) == 1) = true := by rw [h1]; rfl
      clear hk h1 h ha e18
      go_enter Tryz.func48, Tryz.ntmps48
      go_wp2_with fail
      go_ret2
      exact ⟨rfl, rfl⟩
    · have t1 : ((b15.toNat : Int) == 1) = false := by rw [beq_eq_false_iff_ne]; omega
      by_cases h2 : b15.toNat = 2
      · have t2 : ((b15.toNat : Int) != 2) = false := by rw [h2]; rfl
        by_cases h3 : b18.toNat / 32 % 2 = 1
        · rw [hk, if_neg h1, if_neg (by simpa using h2), if_pos h3]
          rw [if_pos (by omega)] at ha
          clear hk h1 h2 h3 h
          go_enter Tryz.func48, Tryz.ntmps48
          go_wp2_with fail
          go_ret2
          exact ⟨rfl, rfl⟩
        · rw [hk, if_neg h1, if_neg (by simpa using h2), if_neg h3]
          rw [if_neg (by omega)] at ha
          clear hk h1 h2 h3 h
          go_enter Tryz.func48, Tryz.ntmps48
          go_wp2_with fail
          go_ret2
          exact ⟨rfl, rfl⟩
      · have t2 : ((b15.toNat : Int) != 2) = true := by rw [bne_iff_ne]; omega
        rw [hk, if_neg h1, if_pos h2]
        clear hk h1 h2 h ha e18
        go_enter Tryz.func48, Tryz.ntmps48
        go_wp2_with fail
        go_ret2
        exact ⟨rfl, rfl⟩
  · have hz : ((s.size : Int) != 2352) = true := by rw [bne_iff_ne]; omega
    have hk : kindR s = (0, 1) := by unfold kindR; rw [dif_neg h]
    rw [hk]
    clear hk h
    go_enter Tryz.func48, Tryz.ntmps48
    go_wp2_with fail
    go_ret2
    exact ⟨rfl, rfl⟩

def syncL : List UInt8 := [0, 255, 255, 255, 255, 255, 255, 255, 255, 255, 255, 0]
def bytesV (l : List UInt8) : Array Value := (l.map byteV).toArray
set_option maxHeartbeats 1000000 in
theorem sync_any (w : World) :
    Calls Tryz.prog 52 #[] w fun e w' => e = .returned (.agg (bytesV syncL)) ∧ Below w.heap.size w w' := by
  go_enter Tryz.func52, Tryz.ntmps52
  go_wp2_with fail
  go_rounds 12
  exact bodyPost_ret (v := .agg #[.int .u8 0, .int .u8 255, .int .u8 255, .int .u8 255, .int .u8 255, .int .u8 255, .int .u8 255, .int .u8 255, .int .u8 255, .int .u8 255, .int .u8 255, .int .u8 0]) (by simp [results, Tryz.results52, go_sem]) rfl ⟨rfl, ((Below.refl _ _).alloc (Nat.le_refl _) _).alloc (by simp) _⟩

/-- The recorded code of a string's bytes from an offset on. -/
def codeL (l : List UInt8) (k : Nat) : List UInt8 := edcBs (edcL 0 (l.drop k))
theorem drop_extract (s : ByteArray) (k : Nat) : (s.extract k s.size).data.toList = s.data.toList.drop k := by
  rw [ByteArray.data_extract, Array.toList_extract]
  simp [List.take_of_length_le]
theorem sub_extract (s : ByteArray) (i j : Nat) : (s.extract i j).data.toList = (s.data.toList.take j).drop i := by
  rw [ByteArray.data_extract, Array.toList_extract, List.drop_take]
theorem code_any (s : ByteArray) (k : Nat) (w : World) (hk : k ≤ s.size) (hs : s.size ≤ 140737488351232) :
    Calls Tryz.prog 67 #[.string s, .int .i64 (k : Int)] w fun e w' => e = .returned (.string ⟨(codeL s.data.toList k).toArray⟩) ∧ Below w.heap.size w w' := by
  have hx : edcS (s.extract k s.size) = edcL 0 (s.data.toList.drop k) := by unfold edcS; rw [drop_extract]
  have hz : (s.extract k s.size).size ≤ 140737488351232 := by simp; omega
  have C1 := Lib.hid (fun w => edc_any (s.extract k s.size) w hz)
  rw [hx] at C1
  have C2 := Lib.hid (fun w => edcbytes_any (edcL 0 (s.data.toList.drop k)) w (edcL_lt _ (by omega)))
  have HR := Lib.hid (show codeL s.data.toList k = edcBs (edcL 0 (s.data.toList.drop k)) from rfl)
  have h1 : ¬ (s.size : Int) < (k : Int) := by omega
  clear hx hz
  generalize edcL 0 (s.data.toList.drop k) = c at *
  go_enter Tryz.func67, Tryz.ntmps67
  go_wp2_with fail
  refine (C1.out _).mono ?_
  rintro e w1 ⟨rfl, hb1⟩
  go_wp2_with fail
  refine (C2.out _).mono ?_
  rintro e w2 ⟨rfl, hb2⟩
  go_wp2_with fail
  go_ret
  exact ⟨by rw [HR.out]; rfl, hb1.trans (hb2.mono hb1.size)⟩
theorem str_append (l r : List UInt8) : (⟨l.toArray⟩ : ByteArray) ++ ⟨r.toArray⟩ = ⟨(l ++ r).toArray⟩ := by
  apply ByteArray.ext
  rw [ByteArray.data_append]
  simp
theorem str_size (l : List UInt8) : (⟨l.toArray⟩ : ByteArray).size = l.length := by simp [ByteArray.size]

/-- What a store into one block leaves alone. -/
def Only (g : Nat) (w w' : World) : Prop := (∀ b t cs, b ≠ g → RowAt w b t cs → RowAt w' b t cs) ∧ (∀ B a, B ≤ g → Below B a w → Below B a w') ∧ w.heap.size = w'.heap.size
theorem Only.row {g : Nat} {w w' : World} (h : Only g w w') {b : Nat} {t : TypeId} {cs : Array Value} (hr : RowAt w b t cs) (hb : b ≠ g) : RowAt w' b t cs := h.1 b t cs hb hr
theorem Only.below {g : Nat} {w w' a : World} (h : Only g w w') {B : Nat} (hb : Below B a w) (hg : B ≤ g) : Below B a w' := h.2.1 B a hg hb

theorem add_any (l r : List UInt8) (g : Nat) (w : World) (hr : RowAt w g 9 #[.string ⟨l.toArray⟩]) (hl : l.length + r.length ≤ 100000) :
    Calls Tryz.prog 66 #[.string ⟨r.toArray⟩, .pointer (some ⟨g, 0, none⟩)] w fun e w' => e = .returned (.tuple #[]) ∧ RowAt w' g 9 #[.string ⟨(l ++ r).toArray⟩] ∧ Only g w w' := by
  have hc : w.cell? ⟨g, 0, none⟩ = some (.string ⟨l.toArray⟩) := hr.cell 0
  have hf := hr.frozen 0
  have hs1 : (⟨l.toArray⟩ : ByteArray).size ≤ 100000 := by rw [str_size]; omega
  have hs2 : (⟨r.toArray⟩ : ByteArray).size ≤ 100000 := by rw [str_size]; omega
  have HA := Lib.hid (str_append l r)
  have HR := Lib.hid hr
  clear hr
  generalize (⟨l.toArray⟩ : ByteArray) = s at *
  generalize (⟨r.toArray⟩ : ByteArray) = t at *
  go_enter Tryz.func66, Tryz.ntmps66
  go_wp2_with fail
  go_end0
  refine ⟨rfl, ?_, fun b u cs hb hr => hr.far (by exact hb) _, fun B a hg hb => hb.setCell (p := ⟨g, 0, none⟩) hg _, by simp [World.setCell]⟩
  rw [← HA.out]
  exact HR.out.set_ 0 _

theorem zero_cells (n : Nat) : (madeCells (Value.int .u8 0).cells n).toList = (List.replicate n (0 : UInt8)).map byteV := by
  apply List.ext_getElem?
  intro i
  simp [madeCells, List.getElem?_replicate, Value.cells, byteV]
  by_cases h : i < n
  · simp [h, Nat.mod_one]
  · simp [h]
theorem info_u8 : (Tryz.prog.info? 5).map (fun i => (i.zero, i.size, i.bytes)) = some (some (.int .u8 0), 1, 1) := by kernel_rfl
/-- 'string(make([]byte, n))'. -/
theorem zeros_make (n : Nat) (w : World) (hn : n ≤ 100000) : ∃ w', (Instr.makeSlice 75 (.int .i64 (n : Int)) (.int .i64 (n : Int))).run Tryz.prog w = .ok (.slice (some ⟨w.heap.size, 0, none⟩) n n) w' ∧
    (convert 75 9 (.slice (some ⟨w.heap.size, 0, none⟩) n n)).run Tryz.prog w' = .ok (.string ⟨(List.replicate n (0 : UInt8)).toArray⟩) w' ∧ Below w.heap.size w w' := by
  obtain ⟨i0, hi, hz0, hz1, hz2⟩ := info_parts info_u8
  obtain ⟨w', hrun, hown, hg⟩ := run_make_full (P := Tryz.prog) w w.heap.size 75 5 i0 (.int .u8 0) 1 Tryz.underlying75 hi hz0 hz1 .i64 .i64 n (by rw [hz2]; omega) (by unfold maxLen; omega) (Nat.le_refl _)
  rw [Nat.mul_one, zero_cells] at hown
  exact ⟨w', hrun, own_string _ _ _ _ Tryz.underlying75 Tryz.underlying5 Tryz.underlying9 hown, (Below.refl _ _).grown hg (Nat.le_refl _) (by simp)⟩
theorem own_lit (w : World) (bs : List UInt8) (cells : Array Value) (n : Nat) (hn : bs.length = n) (hc : cells.toList = bs.map byteV) (hm : n ≤ maxLen) (t : TypeId) (g : Nat) (hr : RowAt w g t cells) :
    (convert 75 9 (.slice (some ⟨g, 0, none⟩) n n)).run Tryz.prog w = .ok (.string ⟨bs.toArray⟩) w := by
  subst hn
  refine run_convert_bytes_back w 75 9 5 ⟨g, 0, none⟩ bs.length bs Tryz.underlying75 Tryz.underlying5 Tryz.underlying9 fun j hj => ?_
  have hadd : (⟨g, 0, none⟩ : Addr).add j = ⟨g, j, none⟩ := by unfold Addr.add; split <;> simp_all
  rw [hadd, hr.cell j, ← Array.getElem?_toList, hc]
  simp [hj, byteV]

/-- The bytes ahead of the code of a sector. -/
def headL (x : Sec) : List UInt8 := syncL ++ msfBs ((x.lba + 150) / 75 / 60) ((x.lba + 150) / 75 % 60) ((x.lba + 150) % 75) ++ [UInt8.ofNat (lByte x.mode).toNat]
def subBs (x : Sec) : List UInt8 := [UInt8.ofNat x.fi.toNat, UInt8.ofNat x.ch.toNat, UInt8.ofNat x.su.toNat, UInt8.ofNat x.co.toNat]
def preL (x : Sec) : List UInt8 := if x.mode = 0 then headL x ++ x.data.data.toList else headL x ++ (subBs x ++ subBs x) ++ x.data.data.toList
def codedL (x : Sec) : List UInt8 := preL x ++ codeL (preL x) (lCov x.mode).toNat
def buildL (x : Sec) : List UInt8 := codedL x ++ List.replicate (2352 - (codedL x).length) 0

set_option maxRecDepth 100000 in
set_option maxHeartbeats 4000000 in
theorem build_one (x : Sec) (w : World) (hn : -9223372036854775808 ≤ x.lba) (hv : validB x = true) (hm : x.mode = 0) (h1 : -150 ≤ x.lba) (h2 : x.lba ≤ 449849) (h3 : x.data.size = 2048) :
    Calls Tryz.prog 30 #[secV7 x] w fun e w' => e = .returned (.tuple #[.string ⟨(buildL x).toArray⟩, .int .i64 0]) ∧ Below w.heap.size w w' := by
  have CV : Hid (∀ w, Calls Tryz.prog 63 #[secV7 x] w fun e w' => e = .returned (.bool true) ∧ Below w.heap.size w w') := by
    have := fun w => valid7_any x w hn (by omega)
    rwa [hv] at this
  obtain ⟨lba, mode, fi, ch, su, co, data⟩ := x
  dsimp only at *
  subst hm
  have C1 : Hid (∀ w, Calls Tryz.prog 49 #[.int .i64 0] w fun e w' => e = .returned (.tuple #[.agg #[.int .u8 1, .int .i64 16, .int .i64 2048, .int .i64 0], .bool true]) ∧ Below w.heap.size w w') := fun w => layouts_ok 0 w rfl
  have C2 := Lib.hid (fun w => tomsf_ok lba w h1 h2)
  have hok := msfN_ok (n := lba + 150) (by omega) (by omega)
  have C3 := Lib.hid (fun w => encode_any ((lba + 150) / 75 / 60) ((lba + 150) / 75 % 60) ((lba + 150) % 75) w hok)
  have C4 : Hid (∀ w, Calls Tryz.prog 52 #[] w fun e w' => e = .returned (.agg #[.int .u8 0, .int .u8 255, .int .u8 255, .int .u8 255, .int .u8 255, .int .u8 255, .int .u8 255, .int .u8 255, .int .u8 255, .int .u8 255, .int .u8 255, .int .u8 0]) ∧ Below w.heap.size w w') := fun w => sync_any w
  have hml : (msfBs ((lba + 150) / 75 / 60) ((lba + 150) / 75 % 60) ((lba + 150) % 75)).length = 3 := rfl
  have hhead : headL ⟨lba, 0, fi, ch, su, co, data⟩ = syncL ++ msfBs ((lba + 150) / 75 / 60) ((lba + 150) / 75 % 60) ((lba + 150) % 75) ++ [1] := rfl
  have hpre : preL ⟨lba, 0, fi, ch, su, co, data⟩ = headL ⟨lba, 0, fi, ch, su, co, data⟩ ++ data.data.toList := rfl
  have hcd : codedL ⟨lba, 0, fi, ch, su, co, data⟩ = preL ⟨lba, 0, fi, ch, su, co, data⟩ ++ codeL (preL ⟨lba, 0, fi, ch, su, co, data⟩) 0 := rfl
  have hbl : buildL ⟨lba, 0, fi, ch, su, co, data⟩ = codedL ⟨lba, 0, fi, ch, su, co, data⟩ ++ List.replicate (2352 - (codedL ⟨lba, 0, fi, ch, su, co, data⟩).length) 0 := rfl
  have hdl : data.data.toList.length = 2048 := by simpa using h3
  rw [secV7] at CV ⊢
  rw [msfV] at C2 C3
  rw [hhead] at hpre
  generalize preL ⟨lba, 0, fi, ch, su, co, data⟩ = PRE at *
  generalize codedL ⟨lba, 0, fi, ch, su, co, data⟩ = COD at *
  generalize buildL ⟨lba, 0, fi, ch, su, co, data⟩ = BLD at *
  generalize msfBs ((lba + 150) / 75 / 60) ((lba + 150) / 75 % 60) ((lba + 150) % 75) = MS at *
  generalize (lba + 150) / 75 / 60 = m0 at *
  generalize (lba + 150) / 75 % 60 = m1 at *
  generalize (lba + 150) % 75 = m2 at *
  have HPRE := Lib.hid hpre
  have HCOD := Lib.hid hcd
  have HBLD := Lib.hid hbl
  have HML := Lib.hid hml
  have HDL := Lib.hid hdl
  clear hv hok hpre hcd hbl hhead hml hdl
  go_enter Tryz.func30, Tryz.ntmps30
  go_wp2_with fail
  refine (CV.out _).mono ?_
  rintro r w1 ⟨rfl, hb1⟩
  have hs1 : w.heap.size < w1.heap.size := by have := hb1.size; simp at this; omega
  have hr1 : RowAt w1 w.heap.size 56 _ := (RowAt.new w _ _).below hb1 (by simp)
  have q1 := hr1.cell
  have b1 : Below w.heap.size w w1 := ((Below.refl _ _).alloc (Nat.le_refl _) _).trans (hb1.mono (by simp))
  go_wp2_with fail
  refine (C1.out _).mono ?_
  rintro r w2 ⟨rfl, hb2⟩
  have hs2 : w.heap.size < w2.heap.size := by have := hb2.size; omega
  have hr2 := hr1.below hb2 hs1
  have q2 := hr2.cell
  have b2 : Below w.heap.size w w2 := b1.trans (hb2.mono b1.size)
  clear q1 hr1 hb1 hb2 b1
  go_wp2_with fail
  refine (C2.out _).mono ?_
  rintro r w3 ⟨rfl, hb3⟩
  have hs3 : w2.heap.size < w3.heap.size := by have := hb3.size; simp at this; omega
  have hr3 := (hr2.alloc _).below hb3 (by simp; omega)
  have hl3 : RowAt w3 w2.heap.size 95 #[.int .u8 1, .int .i64 16, .int .i64 2048, .int .i64 0] := (RowAt.new w2 _ _).below hb3 (by simp)
  have b3 : Below w.heap.size w w3 := (b2.alloc b2.size _).trans (hb3.mono (by simp; omega))
  clear q2 hr2 hb3 b2
  go_wp2_with fail
  refine (C3.out _).mono ?_
  rintro r w4 ⟨rfl, hb4⟩
  have hs4 : w3.heap.size < w4.heap.size := by have := hb4.size; simp at this; omega
  have hr4 := (hr3.alloc _).below hb4 (by simp; omega)
  have hl4 := (hl3.alloc _).below hb4 (by simp; omega)
  have b4 : Below w.heap.size w w4 := (b3.alloc b3.size _).trans (hb4.mono (by simp; omega))
  clear hr3 hl3 hb4 b3
  go_wp2_with fail
  refine (C4.out _).mono ?_
  rintro r w5 ⟨rfl, hb5⟩
  have hs5 : w4.heap.size ≤ w5.heap.size := hb5.size
  have hr5 := hr4.below hb5 (by omega)
  have hl5 := hl4.below hb5 (by omega)
  have b5 : Below w.heap.size w w5 := b4.trans (hb5.mono b4.size)
  clear hr4 hl4 hb5 b4
  have hcv := own_lit (w5.alloc (.cells #[.int .u8 0, .int .u8 255, .int .u8 255, .int .u8 255, .int .u8 255, .int .u8 255, .int .u8 255, .int .u8 255, .int .u8 255, .int .u8 255, .int .u8 255, .int .u8 0] 103)) syncL #[.int .u8 0, .int .u8 255, .int .u8 255, .int .u8 255, .int .u8 255, .int .u8 255, .int .u8 255, .int .u8 255, .int .u8 255, .int .u8 255, .int .u8 255, .int .u8 0] 12 rfl rfl (by unfold maxLen; omega) _ w5.heap.size (RowAt.new _ _ _)
  go_wp2_with fail
  have hr6 := (hr5.alloc (.cells #[.int .u8 0, .int .u8 255, .int .u8 255, .int .u8 255, .int .u8 255, .int .u8 255, .int .u8 255, .int .u8 255, .int .u8 255, .int .u8 255, .int .u8 255, .int .u8 0] 103)).alloc (.cells #[.string ⟨syncL.toArray⟩] 9)
  have hl6 := (hl5.alloc (.cells #[.int .u8 0, .int .u8 255, .int .u8 255, .int .u8 255, .int .u8 255, .int .u8 255, .int .u8 255, .int .u8 255, .int .u8 255, .int .u8 255, .int .u8 255, .int .u8 0] 103)).alloc (.cells #[.string ⟨syncL.toArray⟩] 9)
  have ht6 := RowAt.new (w5.alloc (.cells #[.int .u8 0, .int .u8 255, .int .u8 255, .int .u8 255, .int .u8 255, .int .u8 255, .int .u8 255, .int .u8 255, .int .u8 255, .int .u8 255, .int .u8 255, .int .u8 0] 103)) 9 #[.string ⟨syncL.toArray⟩]
  rw [World.size_alloc] at ht6
  have b6 := (b5.alloc b5.size (.cells #[.int .u8 0, .int .u8 255, .int .u8 255, .int .u8 255, .int .u8 255, .int .u8 255, .int .u8 255, .int .u8 255, .int .u8 255, .int .u8 255, .int .u8 255, .int .u8 0] 103)).alloc (by have := b5.size; simp; omega) (.cells #[.string ⟨syncL.toArray⟩] 9)
  generalize ((w5.alloc (.cells #[.int .u8 0, .int .u8 255, .int .u8 255, .int .u8 255, .int .u8 255, .int .u8 255, .int .u8 255, .int .u8 255, .int .u8 255, .int .u8 255, .int .u8 255, .int .u8 0] 103)).alloc (.cells #[.string ⟨syncL.toArray⟩] 9)) = w6 at *
  have hg1 : w.heap.size < w5.heap.size + 1 := by omega
  have hg2 : w2.heap.size < w5.heap.size + 1 := by omega
  generalize w5.heap.size + 1 = g at *
  clear hr5 hl5 b5 hcv
  have hsl : syncL.length = 12 := rfl
  have HSL := Lib.hid hsl
  clear hsl
  refine (add_any syncL MS g _ ht6 (by have := HSL.out; have := HML.out; omega)).mono ?_
  rintro r w7 ⟨rfl, ht7, ho7⟩
  have hr7 := ho7.row hr6 (by omega)
  have hl7 := ho7.row hl6 (by omega)
  have b7 : Below w.heap.size w w7 := ho7.below b6 (by omega)
  have qr := hr7.cell
  have ql := hl7.cell
  have qt := ht7.cell
  clear hr6 hl6 ht6 ho7 b6
  have hlt7 : w2.heap.size < w7.heap.size := hl7.lt
  have hcv7 := own_lit (w7.alloc (.cells #[.int .u8 1] 5)) [1] #[.int .u8 1] 1 rfl rfl (by unfold maxLen; omega) _ w7.heap.size (RowAt.new _ _ _)
  go_wp2_with fail
  have hr8 := hr7.alloc (.cells #[.int .u8 1] 5)
  have hl8 := hl7.alloc (.cells #[.int .u8 1] 5)
  have ht8 := ht7.alloc (.cells #[.int .u8 1] 5)
  have b8 := b7.alloc b7.size (.cells #[.int .u8 1] 5)
  generalize (w7.alloc (.cells #[.int .u8 1] 5)) = w8 at *
  clear hcv7 hr7 hl7 ht7 b7 qr ql qt
  have ca := add_any (syncL ++ MS) [1] g _ ht8 (by have := HSL.out; have := HML.out; simp; omega)
  refine ca.mono ?_
  clear ca
  rintro r w9 ⟨rfl, ht9, ho9⟩
  have hr9 := ho9.row hr8 (by omega)
  have hl9 := ho9.row hl8 (by omega)
  have b9 : Below w.heap.size w w9 := ho9.below b8 (by omega)
  have hs9 : w.heap.size < w9.heap.size := hr9.lt
  have hv9 : w2.heap.size < w9.heap.size := hl9.lt
  have hu9 : g < w9.heap.size := ht9.lt
  have qr := hr9.cell
  have ql := hl9.cell
  have qt := ht9.cell
  clear hr8 hl8 ht8 ho9 b8
  go_wp2_with fail
  have ca := add_any (syncL ++ MS ++ [1]) data.data.toList g _ ht9 (by have := HSL.out; have := HML.out; have := HDL.out; simp only [List.length_append, List.length_cons, List.length_nil]; omega)
  rw [show (⟨data.data.toList.toArray⟩ : ByteArray) = data by simp] at ca
  refine ca.mono ?_
  clear ca
  rintro r w10 ⟨rfl, ht10, ho10⟩
  have hr10 := ho10.row hr9 (by omega)
  have hl10 := ho10.row hl9 (by omega)
  have b10 : Below w.heap.size w w10 := ho10.below b9 (by omega)
  have hs10 : w.heap.size < w10.heap.size := hr10.lt
  have hv10 : w2.heap.size < w10.heap.size := hl10.lt
  have hu10 : g < w10.heap.size := ht10.lt
  have qr := hr10.cell
  have ql := hl10.cell
  have qt := ht10.cell
  clear hr9 hl9 ht9 ho10 b9
  rw [← HPRE.out] at ht10 qt
  have hpl : PRE.length = 2064 := by rw [HPRE.out]; have := HSL.out; have := HML.out; have := HDL.out; simp only [List.length_append, List.length_cons, List.length_nil]; omega
  have HPL := Lib.hid hpl
  have C5 : Hid (∀ w, Calls Tryz.prog 67 #[.string ⟨PRE.toArray⟩, .int .i64 0] w fun e w' => e = .returned (.string ⟨(codeL PRE 0).toArray⟩) ∧ Below w.heap.size w w') := fun w => code_any ⟨PRE.toArray⟩ 0 w (Nat.zero_le _) (by rw [str_size]; omega)
  clear hpl
  go_wp2_with fail
  refine (C5.out _).mono ?_
  rintro r w11 ⟨rfl, hb11⟩
  have hr11 := hr10.below hb11 hs10
  have hl11 := hl10.below hb11 hv10
  have ht11 := ht10.below hb11 hu10
  have b11 : Below w.heap.size w w11 := b10.trans (hb11.mono b10.size)
  clear hr10 hl10 ht10 b10 qr ql qt
  have hcl : (codeL PRE 0).length = 4 := rfl
  have HCL := Lib.hid hcl
  clear hcl
  go_wp2_with fail
  have ca := add_any PRE (codeL PRE 0) g _ ht11 (by have := HPL.out; have := HCL.out; omega)
  refine ca.mono ?_
  clear ca
  rintro r w12 ⟨rfl, ht12, ho12⟩
  have hr12 := ho12.row hr11 (by omega)
  have hl12 := ho12.row hl11 (by omega)
  have b12 : Below w.heap.size w w12 := ho12.below b11 (by omega)
  have hs12 : w.heap.size < w12.heap.size := hr12.lt
  have hv12 : w2.heap.size < w12.heap.size := hl12.lt
  have hu12 : g < w12.heap.size := ht12.lt
  have qr := hr12.cell
  have ql := hl12.cell
  have qt := ht12.cell
  clear hr11 hl11 ht11 ho12 b11
  rw [← HCOD.out] at ht12 qt
  have hcl : COD.length = 2068 := by rw [HCOD.out, List.length_append, HPL.out, HCL.out]
  have hcs : (⟨COD.toArray⟩ : ByteArray).size = 2068 := by rw [str_size]; exact hcl
  have hmk := zeros_make 284 w12 (by omega)
  rw [show ((284 : Nat) : Int) = 284 from rfl] at hmk
  have hbd : BLD = COD ++ List.replicate 284 0 := by rw [HBLD.out, hcl]
  have hzl : (List.replicate 284 (0 : UInt8)).length = 284 := List.length_replicate
  generalize List.replicate 284 (0 : UInt8) = Z at *
  obtain ⟨w13, hmk, hcv13, hb13⟩ := hmk
  have HBD := Lib.hid hbd
  have HL2 := Lib.hid hcl
  have HZL := Lib.hid hzl
  have hI : ((COD.length : Nat) : Int) = 2068 := by omega
  clear hbd HBLD HCOD HPRE hzl hcl hcs
  go_wp2_with fail
  have hr13 := hr12.below hb13 hs12
  have hl13 := hl12.below hb13 hv12
  have ht13 := ht12.below hb13 hu12
  have b13 : Below w.heap.size w w13 := b12.trans (hb13.mono b12.size)
  have ca := add_any COD Z g _ ht13 (by have := HL2.out; have := HZL.out; omega)
  refine ca.mono ?_
  rintro r w14 ⟨rfl, ht14, ho14⟩
  have b14 : Below w.heap.size w w14 := ho14.below b13 (by omega)
  rw [← HBD.out] at ht14
  have qt := ht14.cell
  clear ca hr12 hl12 ht12 b12 ql qr
  go_wp2_with fail
  go_ret2
  exact ⟨rfl, b14⟩
set_option maxRecDepth 100000 in
set_option maxHeartbeats 4000000 in
theorem build_two (x : Sec) (w : World) (hn : -9223372036854775808 ≤ x.lba) (hv : validB x = true) (hm : x.mode = 1 ∨ x.mode = 2) (h1 : -150 ≤ x.lba) (h2 : x.lba ≤ 449849) (n2 : Nat) (h4 : lCap x.mode = (n2 : Int)) (h3 : x.data.size = n2) :
    Calls Tryz.prog 30 #[secV7 x] w fun e w' => e = .returned (.tuple #[.string ⟨(buildL x).toArray⟩, .int .i64 0]) ∧ Below w.heap.size w w' := by
  have CV : Hid (∀ w, Calls Tryz.prog 63 #[secV7 x] w fun e w' => e = .returned (.bool true) ∧ Below w.heap.size w w') := by
    have := fun w => valid7_any x w hn (by rw [h3]; unfold lCap at h4; split at h4 <;> omega)
    rwa [hv] at this
  obtain ⟨lba, mode, fi, ch, su, co, data⟩ := x
  dsimp only at *
  have hn2 : n2 ≤ 2324 := by unfold lCap at h4; split at h4 <;> omega
  have hm0 : (mode != 0) = true := by rw [bne_iff_ne]; omega
  have hsub := hv
  unfold validB at hsub
  rw [Bool.and_eq_true] at hsub
  have hs0 := hsub.2
  rw [subOk, if_neg (by dsimp only; omega)] at hs0
  simp only [Bool.and_eq_true, btw_iff] at hs0
  obtain ⟨⟨⟨⟨⟨f0, f1⟩, c0, c1⟩, s0, s1⟩, o0, o1⟩, _⟩ := hs0
  have C1 : Hid (∀ w, Calls Tryz.prog 49 #[.int .i64 mode] w fun e w' => e = .returned (.tuple #[.agg #[.int .u8 2, .int .i64 24, .int .i64 (n2 : Int), .int .i64 16], .bool true]) ∧ Below w.heap.size w w') := by
    have := fun w => layouts_ok mode w (modeOk_iff.2 (by omega))
    rwa [show layV mode = .agg #[.int .u8 2, .int .i64 24, .int .i64 (n2 : Int), .int .i64 16] by unfold layV lByte lData lCov; rw [if_neg (by omega), if_neg (by omega), if_neg (by omega), h4]] at this
  have C2 := Lib.hid (fun w => tomsf_ok lba w h1 h2)
  have hok := msfN_ok (n := lba + 150) (by omega) (by omega)
  have C3 := Lib.hid (fun w => encode_any ((lba + 150) / 75 / 60) ((lba + 150) / 75 % 60) ((lba + 150) % 75) w hok)
  have C4 : Hid (∀ w, Calls Tryz.prog 52 #[] w fun e w' => e = .returned (.agg #[.int .u8 0, .int .u8 255, .int .u8 255, .int .u8 255, .int .u8 255, .int .u8 255, .int .u8 255, .int .u8 255, .int .u8 255, .int .u8 255, .int .u8 255, .int .u8 0]) ∧ Below w.heap.size w w') := fun w => sync_any w
  have hml : (msfBs ((lba + 150) / 75 / 60) ((lba + 150) / 75 % 60) ((lba + 150) % 75)).length = 3 := rfl
  have hhead : headL ⟨lba, mode, fi, ch, su, co, data⟩ = syncL ++ msfBs ((lba + 150) / 75 / 60) ((lba + 150) / 75 % 60) ((lba + 150) % 75) ++ [2] := by unfold headL lByte; rw [if_neg (by dsimp only; omega)]; rfl
  have hpre : preL ⟨lba, mode, fi, ch, su, co, data⟩ = headL ⟨lba, mode, fi, ch, su, co, data⟩ ++ (subBs ⟨lba, mode, fi, ch, su, co, data⟩ ++ subBs ⟨lba, mode, fi, ch, su, co, data⟩) ++ data.data.toList := if_neg (by dsimp only; omega)
  have hsb : subBs ⟨lba, mode, fi, ch, su, co, data⟩ = [UInt8.ofNat fi.toNat, UInt8.ofNat ch.toNat, UInt8.ofNat su.toNat, UInt8.ofNat co.toNat] := rfl
  have hsbl : (subBs ⟨lba, mode, fi, ch, su, co, data⟩).length = 4 := rfl
  have hcd : codedL ⟨lba, mode, fi, ch, su, co, data⟩ = preL ⟨lba, mode, fi, ch, su, co, data⟩ ++ codeL (preL ⟨lba, mode, fi, ch, su, co, data⟩) 16 := by unfold codedL lCov; rw [if_neg (by dsimp only; omega)]; rfl
  have hbl : buildL ⟨lba, mode, fi, ch, su, co, data⟩ = codedL ⟨lba, mode, fi, ch, su, co, data⟩ ++ List.replicate (2352 - (codedL ⟨lba, mode, fi, ch, su, co, data⟩).length) 0 := rfl
  have hdl : data.data.toList.length = n2 := by simpa using h3
  rw [secV7] at CV ⊢
  rw [msfV] at C2 C3
  rw [hhead] at hpre
  generalize subBs ⟨lba, mode, fi, ch, su, co, data⟩ = SB at *
  generalize preL ⟨lba, mode, fi, ch, su, co, data⟩ = PRE at *
  generalize codedL ⟨lba, mode, fi, ch, su, co, data⟩ = COD at *
  generalize buildL ⟨lba, mode, fi, ch, su, co, data⟩ = BLD at *
  generalize msfBs ((lba + 150) / 75 / 60) ((lba + 150) / 75 % 60) ((lba + 150) % 75) = MS at *
  generalize (lba + 150) / 75 / 60 = m0 at *
  generalize (lba + 150) / 75 % 60 = m1 at *
  generalize (lba + 150) % 75 = m2 at *
  have HPRE := Lib.hid hpre
  have HCOD := Lib.hid hcd
  have HBLD := Lib.hid hbl
  have HML := Lib.hid hml
  have HSB := Lib.hid hsb
  have HSBL := Lib.hid hsbl
  have HDL := Lib.hid hdl
  clear hv hok hpre hcd hbl hhead hml hdl hsb hsbl hm h4 h3 hsub
  go_enter Tryz.func30, Tryz.ntmps30
  go_wp2_with fail
  refine (CV.out _).mono ?_
  rintro r w1 ⟨rfl, hb1⟩
  have hs1 : w.heap.size < w1.heap.size := by have := hb1.size; simp at this; omega
  have hr1 : RowAt w1 w.heap.size 56 _ := (RowAt.new w _ _).below hb1 (by simp)
  have q1 := hr1.cell
  have b1 : Below w.heap.size w w1 := ((Below.refl _ _).alloc (Nat.le_refl _) _).trans (hb1.mono (by simp))
  go_wp2_with fail
  refine (C1.out _).mono ?_
  rintro r w2 ⟨rfl, hb2⟩
  have hs2 : w.heap.size < w2.heap.size := by have := hb2.size; omega
  have hr2 := hr1.below hb2 hs1
  have q2 := hr2.cell
  have b2 : Below w.heap.size w w2 := b1.trans (hb2.mono b1.size)
  clear q1 hr1 hb1 hb2 b1
  go_wp2_with fail
  refine (C2.out _).mono ?_
  rintro r w3 ⟨rfl, hb3⟩
  have hs3 : w2.heap.size < w3.heap.size := by have := hb3.size; simp at this; omega
  have hr3 := (hr2.alloc _).below hb3 (by simp; omega)
  have hl3 : RowAt w3 w2.heap.size 95 #[.int .u8 2, .int .i64 24, .int .i64 (n2 : Int), .int .i64 16] := (RowAt.new w2 _ _).below hb3 (by simp)
  have b3 : Below w.heap.size w w3 := (b2.alloc b2.size _).trans (hb3.mono (by simp; omega))
  clear q2 hr2 hb3 b2
  go_wp2_with fail
  refine (C3.out _).mono ?_
  rintro r w4 ⟨rfl, hb4⟩
  have hs4 : w3.heap.size < w4.heap.size := by have := hb4.size; simp at this; omega
  have hr4 := (hr3.alloc _).below hb4 (by simp; omega)
  have hl4 := (hl3.alloc _).below hb4 (by simp; omega)
  have b4 : Below w.heap.size w w4 := (b3.alloc b3.size _).trans (hb4.mono (by simp; omega))
  clear hr3 hl3 hb4 b3
  go_wp2_with fail
  refine (C4.out _).mono ?_
  rintro r w5 ⟨rfl, hb5⟩
  have hs5 : w4.heap.size ≤ w5.heap.size := hb5.size
  have hr5 := hr4.below hb5 (by omega)
  have hl5 := hl4.below hb5 (by omega)
  have b5 : Below w.heap.size w w5 := b4.trans (hb5.mono b4.size)
  clear hr4 hl4 hb5 b4
  have hcv := own_lit (w5.alloc (.cells #[.int .u8 0, .int .u8 255, .int .u8 255, .int .u8 255, .int .u8 255, .int .u8 255, .int .u8 255, .int .u8 255, .int .u8 255, .int .u8 255, .int .u8 255, .int .u8 0] 103)) syncL #[.int .u8 0, .int .u8 255, .int .u8 255, .int .u8 255, .int .u8 255, .int .u8 255, .int .u8 255, .int .u8 255, .int .u8 255, .int .u8 255, .int .u8 255, .int .u8 0] 12 rfl rfl (by unfold maxLen; omega) _ w5.heap.size (RowAt.new _ _ _)
  go_wp2_with fail
  have hr6 := (hr5.alloc (.cells #[.int .u8 0, .int .u8 255, .int .u8 255, .int .u8 255, .int .u8 255, .int .u8 255, .int .u8 255, .int .u8 255, .int .u8 255, .int .u8 255, .int .u8 255, .int .u8 0] 103)).alloc (.cells #[.string ⟨syncL.toArray⟩] 9)
  have hl6 := (hl5.alloc (.cells #[.int .u8 0, .int .u8 255, .int .u8 255, .int .u8 255, .int .u8 255, .int .u8 255, .int .u8 255, .int .u8 255, .int .u8 255, .int .u8 255, .int .u8 255, .int .u8 0] 103)).alloc (.cells #[.string ⟨syncL.toArray⟩] 9)
  have ht6 := RowAt.new (w5.alloc (.cells #[.int .u8 0, .int .u8 255, .int .u8 255, .int .u8 255, .int .u8 255, .int .u8 255, .int .u8 255, .int .u8 255, .int .u8 255, .int .u8 255, .int .u8 255, .int .u8 0] 103)) 9 #[.string ⟨syncL.toArray⟩]
  rw [World.size_alloc] at ht6
  have b6 := (b5.alloc b5.size (.cells #[.int .u8 0, .int .u8 255, .int .u8 255, .int .u8 255, .int .u8 255, .int .u8 255, .int .u8 255, .int .u8 255, .int .u8 255, .int .u8 255, .int .u8 255, .int .u8 0] 103)).alloc (by have := b5.size; simp; omega) (.cells #[.string ⟨syncL.toArray⟩] 9)
  generalize ((w5.alloc (.cells #[.int .u8 0, .int .u8 255, .int .u8 255, .int .u8 255, .int .u8 255, .int .u8 255, .int .u8 255, .int .u8 255, .int .u8 255, .int .u8 255, .int .u8 255, .int .u8 0] 103)).alloc (.cells #[.string ⟨syncL.toArray⟩] 9)) = w6 at *
  have hg1 : w.heap.size < w5.heap.size + 1 := by omega
  have hg2 : w2.heap.size < w5.heap.size + 1 := by omega
  generalize w5.heap.size + 1 = g at *
  clear hr5 hl5 b5 hcv
  have hsl : syncL.length = 12 := rfl
  have HSL := Lib.hid hsl
  clear hsl
  refine (add_any syncL MS g _ ht6 (by have := HSL.out; have := HML.out; omega)).mono ?_
  rintro r w7 ⟨rfl, ht7, ho7⟩
  have hr7 := ho7.row hr6 (by omega)
  have hl7 := ho7.row hl6 (by omega)
  have b7 : Below w.heap.size w w7 := ho7.below b6 (by omega)
  have qr := hr7.cell
  have ql := hl7.cell
  have qt := ht7.cell
  clear hr6 hl6 ht6 ho7 b6
  have hlt7 : w2.heap.size < w7.heap.size := hl7.lt
  have hcv7 := own_lit (w7.alloc (.cells #[.int .u8 2] 5)) [2] #[.int .u8 2] 1 rfl rfl (by unfold maxLen; omega) _ w7.heap.size (RowAt.new _ _ _)
  go_wp2_with fail
  have hr8 := hr7.alloc (.cells #[.int .u8 2] 5)
  have hl8 := hl7.alloc (.cells #[.int .u8 2] 5)
  have ht8 := ht7.alloc (.cells #[.int .u8 2] 5)
  have b8 := b7.alloc b7.size (.cells #[.int .u8 2] 5)
  generalize (w7.alloc (.cells #[.int .u8 2] 5)) = w8 at *
  clear hcv7 hr7 hl7 ht7 b7 qr ql qt
  have ca := add_any (syncL ++ MS) [2] g _ ht8 (by have := HSL.out; have := HML.out; simp; omega)
  refine ca.mono ?_
  clear ca
  rintro r w9 ⟨rfl, ht9, ho9⟩
  have hr9 := ho9.row hr8 (by omega)
  have hl9 := ho9.row hl8 (by omega)
  have b9 : Below w.heap.size w w9 := ho9.below b8 (by omega)
  have hs9 : w.heap.size < w9.heap.size := hr9.lt
  have hv9 : w2.heap.size < w9.heap.size := hl9.lt
  have hu9 : g < w9.heap.size := ht9.lt
  have qr := hr9.cell
  have ql := hl9.cell
  have qt := ht9.cell
  clear hr8 hl8 ht8 ho9 b8
  have hcv9 := own_lit (w9.alloc (.cells #[.int .u8 fi, .int .u8 ch, .int .u8 su, .int .u8 co] 5)) SB #[.int .u8 fi, .int .u8 ch, .int .u8 su, .int .u8 co] 4 HSBL.out (by rw [HSB.out]; simp [byteV]; omega) (by unfold maxLen; omega) _ w9.heap.size (RowAt.new _ _ _)
  have hsz9 : (⟨SB.toArray⟩ : ByteArray).size ≤ 4 := by rw [str_size]; have := HSBL.out; omega
  go_wp2_with fail
  have hr29 := hr9.alloc (.cells #[.int .u8 fi, .int .u8 ch, .int .u8 su, .int .u8 co] 5)
  have hl29 := hl9.alloc (.cells #[.int .u8 fi, .int .u8 ch, .int .u8 su, .int .u8 co] 5)
  have ht29 := ht9.alloc (.cells #[.int .u8 fi, .int .u8 ch, .int .u8 su, .int .u8 co] 5)
  have b29 := b9.alloc b9.size (.cells #[.int .u8 fi, .int .u8 ch, .int .u8 su, .int .u8 co] 5)
  generalize (w9.alloc (.cells #[.int .u8 fi, .int .u8 ch, .int .u8 su, .int .u8 co] 5)) = w29 at *
  clear hr9 hl9 ht9 b9 qr ql qt hcv9
  have ca := add_any (syncL ++ MS ++ [2]) (SB ++ SB) g _ ht29 (by have := HSL.out; have := HML.out; have := HSBL.out; simp only [List.length_append, List.length_cons, List.length_nil]; omega)
  rw [← str_append] at ca
  refine ca.mono ?_
  clear ca
  rintro r w39 ⟨rfl, ht39, ho39⟩
  have hr39 := ho39.row hr29 (by omega)
  have hl39 := ho39.row hl29 (by omega)
  have b39 : Below w.heap.size w w39 := ho39.below b29 (by omega)
  have hs39 : w.heap.size < w39.heap.size := hr39.lt
  have hv39 : w2.heap.size < w39.heap.size := hl39.lt
  have hu39 : g < w39.heap.size := ht39.lt
  have qr := hr39.cell
  have ql := hl39.cell
  have qt := ht39.cell
  clear hr29 hl29 ht29 ho39 b29
  go_wp2_with fail
  have ca := add_any (syncL ++ MS ++ [2] ++ (SB ++ SB)) data.data.toList g _ ht39 (by have := HSL.out; have := HML.out; have := HDL.out; have := HSBL.out; simp only [List.length_append, List.length_cons, List.length_nil]; omega)
  rw [show (⟨data.data.toList.toArray⟩ : ByteArray) = data by simp] at ca
  refine ca.mono ?_
  clear ca
  rintro r w10 ⟨rfl, ht10, ho10⟩
  have hr10 := ho10.row hr39 (by omega)
  have hl10 := ho10.row hl39 (by omega)
  have b10 : Below w.heap.size w w10 := ho10.below b39 (by omega)
  have hs10 : w.heap.size < w10.heap.size := hr10.lt
  have hv10 : w2.heap.size < w10.heap.size := hl10.lt
  have hu10 : g < w10.heap.size := ht10.lt
  have qr := hr10.cell
  have ql := hl10.cell
  have qt := ht10.cell
  clear hr39 hl39 ht39 ho10 b39
  rw [← HPRE.out] at ht10 qt
  have hpl : PRE.length = 24 + n2 := by rw [HPRE.out]; have := HSL.out; have := HML.out; have := HDL.out; have := HSBL.out; simp only [List.length_append, List.length_cons, List.length_nil]; omega
  have HPL := Lib.hid hpl
  have C5 : Hid (∀ w, Calls Tryz.prog 67 #[.string ⟨PRE.toArray⟩, .int .i64 16] w fun e w' => e = .returned (.string ⟨(codeL PRE 16).toArray⟩) ∧ Below w.heap.size w w') := fun w => code_any ⟨PRE.toArray⟩ 16 w (by rw [str_size]; omega) (by rw [str_size]; omega)
  clear hpl
  go_wp2_with fail
  refine (C5.out _).mono ?_
  rintro r w11 ⟨rfl, hb11⟩
  have hr11 := hr10.below hb11 hs10
  have hl11 := hl10.below hb11 hv10
  have ht11 := ht10.below hb11 hu10
  have b11 : Below w.heap.size w w11 := b10.trans (hb11.mono b10.size)
  clear hr10 hl10 ht10 b10 qr ql qt
  have hcl : (codeL PRE 16).length = 4 := rfl
  have HCL := Lib.hid hcl
  clear hcl
  go_wp2_with fail
  have ca := add_any PRE (codeL PRE 16) g _ ht11 (by have := HPL.out; have := HCL.out; omega)
  refine ca.mono ?_
  clear ca
  rintro r w12 ⟨rfl, ht12, ho12⟩
  have hr12 := ho12.row hr11 (by omega)
  have hl12 := ho12.row hl11 (by omega)
  have b12 : Below w.heap.size w w12 := ho12.below b11 (by omega)
  have hs12 : w.heap.size < w12.heap.size := hr12.lt
  have hv12 : w2.heap.size < w12.heap.size := hl12.lt
  have hu12 : g < w12.heap.size := ht12.lt
  have qr := hr12.cell
  have ql := hl12.cell
  have qt := ht12.cell
  clear hr11 hl11 ht11 ho12 b11
  rw [← HCOD.out] at ht12 qt
  have hcl : COD.length = 28 + n2 := by rw [HCOD.out, List.length_append, HPL.out, HCL.out]; omega
  have hmk := zeros_make (2324 - n2) w12 (by omega)
  rw [show ((2324 - n2 : Nat) : Int) = 2324 - (n2 : Int) by omega] at hmk
  have hbd : BLD = COD ++ List.replicate (2324 - n2) 0 := by rw [HBLD.out, hcl, show 2352 - (28 + n2) = 2324 - n2 by omega]
  have hzl : (List.replicate (2324 - n2) (0 : UInt8)).length = 2324 - n2 := List.length_replicate
  generalize List.replicate (2324 - n2) (0 : UInt8) = Z at *
  obtain ⟨w13, hmk, hcv13, hb13⟩ := hmk
  have HBD := Lib.hid hbd
  have HL2 := Lib.hid hcl
  have HZL := Lib.hid hzl
  have hI : ((COD.length : Nat) : Int) = 28 + (n2 : Int) := by omega
  have hI2 : 2352 - (28 + (n2 : Int)) = 2324 - (n2 : Int) := by omega
  clear hbd HBLD HCOD HPRE hzl hcl
  go_wp2_with fail
  have hr13 := hr12.below hb13 hs12
  have hl13 := hl12.below hb13 hv12
  have ht13 := ht12.below hb13 hu12
  have b13 : Below w.heap.size w w13 := b12.trans (hb13.mono b12.size)
  have ca := add_any COD Z g _ ht13 (by have := HL2.out; have := HZL.out; omega)
  refine ca.mono ?_
  rintro r w14 ⟨rfl, ht14, ho14⟩
  have b14 : Below w.heap.size w w14 := ho14.below b13 (by omega)
  rw [← HBD.out] at ht14
  have qt := ht14.cell
  clear ca hr12 hl12 ht12 b12 ql qr
  go_wp2_with fail
  go_ret2
  exact ⟨rfl, b14⟩
theorem build_no (x : Sec) (w : World) (hn : -9223372036854775808 ≤ x.lba) (hd : x.data.size ≤ 9223372036854775807) (hv : validB x = false) :
    Calls Tryz.prog 30 #[secV7 x] w fun e w' => e = .returned (.tuple #[.string ⟨#[]⟩, .int .i64 1]) ∧ Below w.heap.size w w' := by
  have CV : Hid (∀ w, Calls Tryz.prog 63 #[secV7 x] w fun e w' => e = .returned (.bool false) ∧ Below w.heap.size w w') := by
    have := fun w => valid7_any x w hn hd
    rwa [hv] at this
  obtain ⟨lba, mode, fi, ch, su, co, data⟩ := x
  rw [secV7] at CV ⊢
  clear hv
  go_enter Tryz.func30, Tryz.ntmps30
  go_wp2_with fail
  refine (CV.out _).mono ?_
  rintro r w1 ⟨rfl, hb1⟩
  go_wp2_with fail
  go_ret2
  exact ⟨rfl, ((Below.refl _ _).alloc (Nat.le_refl _) _).trans (hb1.mono (by simp))⟩
def buildR (x : Sec) : Value := if validB x then .tuple #[.string ⟨(buildL x).toArray⟩, .int .i64 0] else .tuple #[.string ⟨#[]⟩, .int .i64 1]
theorem valid_parts {x : Sec} (h : validB x = true) : modeOk x.mode = true ∧ -150 ≤ x.lba ∧ x.lba ≤ 449849 ∧ (x.data.size : Int) = lCap x.mode := by
  unfold validB at h
  simp only [Bool.and_eq_true, decide_eq_true_eq] at h
  exact ⟨h.1.1.1, h.1.1.2.1, h.1.1.2.2, h.1.2⟩
theorem build_any (x : Sec) (w : World) (hn : -9223372036854775808 ≤ x.lba) (hd : x.data.size ≤ 9223372036854775807) :
    Calls Tryz.prog 30 #[secV7 x] w fun e w' => e = .returned (buildR x) ∧ Below w.heap.size w w' := by
  cases hv : validB x with
  | false =>
    rw [show buildR x = .tuple #[.string ⟨#[]⟩, .int .i64 1] from if_neg (by simp [hv])]
    exact build_no x w hn hd hv
  | true =>
    rw [show buildR x = .tuple #[.string ⟨(buildL x).toArray⟩, .int .i64 0] from if_pos hv]
    obtain ⟨h0, h1, h2, h3⟩ := valid_parts hv
    rcases modeOk_iff.1 h0 with hm | hm
    · exact build_one x w hn hv hm h1 h2 (by rw [hm] at h3; exact Int.ofNat_inj.1 h3)
    · exact build_two x w hn hv hm h1 h2 x.data.size h3.symm rfl
/-- Whether the bytes at E are the code of those from c to E. -/
def chkL (l : List UInt8) (E c : Nat) : Bool := codeL (l.take E) c == (l.take (E + 4)).drop E
theorem chk_eq (s : ByteArray) (E c : Nat) : ((⟨(codeL (s.data.toList.take E) c).toArray⟩ : ByteArray).toList == (s.extract E (E + 4)).toList) = chkL s.data.toList E c := by
  rw [Lib.toList_data, Lib.toList_data, sub_extract]
  rfl
theorem mode_nat {m : Int} (h : modeOk m = true) : ∃ E c : Nat, lData m + lCap m = (E : Int) ∧ lCov m = (c : Int) ∧ c ≤ 16 ∧ 2064 ≤ E ∧ E ≤ 2348 := by
  rcases modeOk_iff.1 h with rfl | rfl | rfl
  · exact ⟨2064, 0, rfl, rfl, by omega, by omega, by omega⟩
  · exact ⟨2072, 16, rfl, rfl, by omega, by omega, by omega⟩
  · exact ⟨2348, 16, rfl, rfl, by omega, by omega, by omega⟩

theorem keepC {w0 W w1 : World} {g : Nat} {a b c d : Value} (hb : Below W.heap.size W w1) (hS : W.cell? ⟨g, 0, none⟩ = some a ∧ W.cell? ⟨g, 1, none⟩ = some b ∧ W.cell? ⟨g, 2, none⟩ = some c ∧ W.cell? ⟨g, 3, none⟩ = some d ∧ g < W.heap.size ∧ Below w0.heap.size w0 W) :
    w1.cell? ⟨g, 0, none⟩ = some a ∧ w1.cell? ⟨g, 1, none⟩ = some b ∧ w1.cell? ⟨g, 2, none⟩ = some c ∧ w1.cell? ⟨g, 3, none⟩ = some d ∧ g < w1.heap.size ∧ Below w0.heap.size w0 w1 :=
  keepL hb hS.1 hS.2.1 hS.2.2.1 hS.2.2.2.1 hS.2.2.2.2.1 hS.2.2.2.2.2

set_option maxHeartbeats 4000000 in
theorem check_ok (s : ByteArray) (m : Int) (E c : Nat) (w : World) (hk : kindR s = (m, 0)) (hm : modeOk m = true) (hE : lData m + lCap m = (E : Int)) (hc : lCov m = (c : Int)) (h1 : c ≤ 16) (h2 : 2064 ≤ E) (h3 : E ≤ 2348) (hs : s.size = 2352) :
    Calls Tryz.prog 53 #[.string s] w fun e w' => e = .returned (.bool (chkL s.data.toList E c)) ∧ Below w.heap.size w w' := by
  have C0 : Hid (∀ w, Calls Tryz.prog 48 #[.string s] w fun e w' => e = .returned (.tuple #[.int .i64 m, .int .i64 0]) ∧ w = w') := by
    have := fun w => kind_any s w (by omega)
    rwa [hk] at this
  have C1 := Lib.hid (fun w => layouts_ok m w hm)
  have C2 := Lib.hid (fun w => ledc_any m w)
  rw [hE] at C2
  rw [layV, hc] at C1 C2
  have hz : (s.extract 0 E).size = E := by simp; omega
  have C3 : Hid (∀ w, Calls Tryz.prog 67 #[.string (s.extract 0 E), .int .i64 (c : Int)] w fun e w' => e = .returned (.string ⟨(codeL (s.data.toList.take E) c).toArray⟩) ∧ Below w.heap.size w w') := by
    have := fun w => code_any (s.extract 0 E) c w (by omega) (by omega)
    rwa [show (s.extract 0 E).data.toList = s.data.toList.take E by rw [sub_extract]; simp] at this
  have hres := chk_eq s E c
  generalize chkL s.data.toList E c = res at *
  generalize (⟨(codeL (s.data.toList.take E) c).toArray⟩ : ByteArray) = cd at *
  obtain ⟨F, hF⟩ : ∃ F : Nat, F = E + 4 := ⟨_, rfl⟩
  rw [← hF] at hres
  have e1 : IntKind.i64.wrap ((E : Int) + 4) = (F : Int) := by rw [IntWalk.i64_in _ (by omega)]; omega
  have e2 : ¬ (s.size : Int) < (E : Int) := by omega
  have e3 : (0 : Int) ≤ (E : Int) := by omega
  have e4 : (E : Int) ≤ (F : Int) := by omega
  have e5 : (F : Int) ≤ (s.size : Int) := by omega
  have e6 : (E : Int) ≤ (s.size : Int) := by omega
  have HRES := Lib.hid hres
  clear hres hF h1 h2 h3 hs
  generalize lData m = l1 at *
  generalize lCap m = l2 at *
  generalize lByte m = l0 at *
  clear hk hm hE hc hz
  go_enter Tryz.func53, Tryz.ntmps53
  go_wp2_with fail
  refine (C0.out _).mono ?_
  rintro e w' ⟨rfl, rfl⟩
  go_wp2_with fail
  refine (C1.out _).mono ?_
  rintro e w1 ⟨rfl, hb1⟩
  go_wp2_with fail
  have hB := hb1.alloc hb1.size (.cells #[.int .u8 l0, .int .i64 l1, .int .i64 l2, .int .i64 (c : Int)] 95)
  go_region_held3 (fun w' => w'.cell? ⟨w1.heap.size, 0, none⟩ = some (.int .u8 l0) ∧ w'.cell? ⟨w1.heap.size, 1, none⟩ = some (.int .i64 l1) ∧ w'.cell? ⟨w1.heap.size, 2, none⟩ = some (.int .i64 l2) ∧ w'.cell? ⟨w1.heap.size, 3, none⟩ = some (.int .i64 (c : Int)) ∧ w1.heap.size < w'.heap.size ∧ Below w.heap.size w w')
    (first | exact keepC (by assumption) (by first | assumption | exact ⟨by simp, by simp, by simp, by simp, by simp, hB.drew⟩) | exact keepL (by assumption) (by first | assumption | simp) (by first | assumption | simp) (by first | assumption | simp) (by first | assumption | simp) (by first | assumption | simp) (by first | assumption | exact hB.drew) | exact ⟨by simp, by simp, by simp, by simp, by simp, hB.drew⟩ | go_keep)
    (first
      | (go_at_call 50; refine (C2.out _).mono ?_; rintro e w2 ⟨rfl, hb2⟩)
      | (go_at_call 67; refine (C3.out _).mono ?_; rintro e w2 ⟨rfl, hb2⟩))
  all_goals
    go_split_ands
    go_wp2_with fail
    go_ret
    exact ⟨by rw [← HRES.out]; rfl, by assumption⟩

/-- What Check answers. -/
def chkB (s : ByteArray) : Bool := if (kindR s).2 = 0 then chkL s.data.toList (lData (kindR s).1 + lCap (kindR s).1).toNat (lCov (kindR s).1).toNat else false
theorem kindR_ok {s : ByteArray} (h : (kindR s).2 = 0) : s.size = 2352 ∧ modeOk (kindR s).1 = true := by
  unfold kindR at h ⊢
  by_cases hs : s.size = 2352
  · rw [dif_pos hs] at h ⊢
    refine ⟨hs, ?_⟩
    by_cases h1 : (s[15]'(by omega)).toNat = 1
    · rw [if_pos h1]; rfl
    · rw [if_neg h1] at h ⊢
      by_cases h2 : (s[15]'(by omega)).toNat ≠ 2
      · rw [if_pos h2] at h
        simp at h
      · rw [if_neg h2]
        by_cases h3 : (s[18]'(by omega)).toNat / 32 % 2 = 1
        · rw [if_pos h3]; rfl
        · rw [if_neg h3]; rfl
  · rw [dif_neg hs] at h
    simp at h
theorem check_any (s : ByteArray) (w : World) (hs : s.size ≤ 140737488351232) :
    Calls Tryz.prog 53 #[.string s] w fun e w' => e = .returned (.bool (chkB s)) ∧ Below w.heap.size w w' := by
  by_cases h : (kindR s).2 = 0
  · obtain ⟨hz, hm⟩ := kindR_ok h
    obtain ⟨E, c, hE, hc, h1, h2, h3⟩ := mode_nat hm
    have := check_ok s (kindR s).1 E c w (by rw [← h]) hm hE hc h1 h2 h3 hz
    unfold chkB
    rw [if_pos h, hE, hc]
    exact this
  · have C0 := Lib.hid (fun w => kind_any s w hs)
    have HR := Lib.hid (show chkB s = false from if_neg h)
    have h0 : ((kindR s).2 != 0) = true := by simpa using h
    generalize kindR s = k at *
    obtain ⟨k1, k2⟩ := k
    dsimp only at *
    clear h
    go_enter Tryz.func53, Tryz.ntmps53
    go_wp2_with fail
    refine (C0.out _).mono ?_
    rintro e w' ⟨rfl, rfl⟩
    go_wp2_with fail
    go_ret
    exact ⟨by rw [HR.out]; rfl, Below.refl _ _⟩
theorem list_str (l : List UInt8) : (⟨l.toArray⟩ : ByteArray).data.toList = l := by simp
theorem build_nat {x : Sec} (h : validB x = true) : ∃ E c : Nat, lData x.mode + lCap x.mode = (E : Int) ∧ lCov x.mode = (c : Int) ∧ c ≤ 16 ∧ 2064 ≤ E ∧ E ≤ 2348 ∧ (preL x).length = E := by
  obtain ⟨h0, h1, h2, h3⟩ := valid_parts h
  obtain ⟨E, c, hE, hc, a1, a2, a3⟩ := mode_nat h0
  refine ⟨E, c, hE, hc, a1, a2, a3, ?_⟩
  have hl : x.data.data.toList.length = x.data.size := by simp
  have hh : (headL x).length = 16 := rfl
  unfold preL
  by_cases hm : x.mode = 0
  · rw [if_pos hm, List.length_append, hh, hl]
    have : lData x.mode = 16 := if_pos hm
    omega
  · rw [if_neg hm, List.length_append, List.length_append, hh, hl]
    have : lData x.mode = 24 := if_neg hm
    have h8 : (subBs x ++ subBs x).length = 8 := rfl
    omega
theorem codeL_len (l : List UInt8) (k : Nat) : (codeL l k).length = 4 := rfl
theorem build_len {x : Sec} (h : validB x = true) : (buildL x).length = 2352 := by
  obtain ⟨E, c, hE, hc, a1, a2, a3, hp⟩ := build_nat h
  have : (codedL x).length = E + 4 := by unfold codedL; rw [List.length_append, hp, codeL_len]
  unfold buildL
  rw [List.length_append, List.length_replicate]
  omega
theorem build_head (x : Sec) : ∃ r, buildL x = headL x ++ r := by
  unfold buildL codedL preL
  split
  · exact ⟨_, by simp only [List.append_assoc]; rfl⟩
  · exact ⟨_, by simp only [List.append_assoc]; rfl⟩
theorem build_sub (x : Sec) (h : x.mode ≠ 0) : ∃ r, buildL x = (headL x ++ (subBs x ++ subBs x)) ++ r := by
  unfold buildL codedL preL
  rw [if_neg h]
  exact ⟨_, by simp only [List.append_assoc]; rfl⟩
theorem byte_at {s : ByteArray} {i : Nat} {b : UInt8} (hi : i < s.size) (h : s.data.toList[i]? = some b) : s[i] = b := by
  rw [bcell7? s i hi] at h
  exact Option.some.inj h
theorem kind_build {x : Sec} (h : validB x = true) : kindR ⟨(buildL x).toArray⟩ = (x.mode, 0) := by
  obtain ⟨h0, h1, h2, h3⟩ := valid_parts h
  have hs : (⟨(buildL x).toArray⟩ : ByteArray).size = 2352 := by rw [str_size, build_len h]
  have hl := list_str (buildL x)
  have hb : subOk x = true := by
    unfold validB at h
    simp only [Bool.and_eq_true] at h
    exact h.2
  obtain ⟨r, hr⟩ := build_head x
  have b15 : (⟨(buildL x).toArray⟩ : ByteArray)[15]'(by omega) = UInt8.ofNat (lByte x.mode).toNat := by
    refine byte_at _ ?_
    rw [hl, hr]
    rw [List.getElem?_append_left (by have : (headL x).length = 16 := rfl; omega)]
    rfl
  unfold kindR
  rw [dif_pos hs, b15]
  by_cases hm : x.mode = 0
  · rw [show lByte x.mode = 1 from if_pos hm, hm]
    rfl
  · rw [show lByte x.mode = 2 from if_neg hm]
    obtain ⟨r2, hr2⟩ := build_sub x hm
    have b18 : (⟨(buildL x).toArray⟩ : ByteArray)[18]'(by omega) = UInt8.ofNat x.su.toNat := by
      refine byte_at _ ?_
      rw [hl, hr2]
      rw [List.getElem?_append_left (by have : (headL x ++ (subBs x ++ subBs x)).length = 24 := rfl; omega)]
      rfl
    rw [b18]
    unfold subOk at hb
    rw [if_neg hm] at hb
    simp only [Bool.and_eq_true, decide_eq_true_eq, btw_iff] at hb
    obtain ⟨⟨⟨⟨q1, q2⟩, q3⟩, q4⟩, q5⟩ := hb
    have hn : (UInt8.ofNat x.su.toNat).toNat = x.su.toNat := by simp; omega
    rw [hn, if_neg (by decide), if_neg (by decide)]
    rcases modeOk_iff.1 h0 with e | e | e
    · exact absurd e hm
    · rw [if_neg, e]
      intro hc
      have := q5.1 (by omega)
      omega
    · rw [if_pos, e]
      have := q5.2 e
      omega
theorem chk_build {x : Sec} (h : validB x = true) : chkB ⟨(buildL x).toArray⟩ = true := by
  obtain ⟨E, c, hE, hc, a1, a2, a3, hp⟩ := build_nat h
  unfold chkB
  rw [kind_build h, if_pos rfl, hE, hc, list_str]
  show chkL (buildL x) E c = true
  unfold chkL
  have hcd : codedL x = preL x ++ codeL (preL x) c := by
    unfold codedL
    rw [hc]
    rfl
  have e1 : (buildL x).take E = preL x := by
    unfold buildL
    rw [hcd, List.append_assoc, List.take_append_of_le_length (by omega), List.take_of_length_le (by omega)]
  have e2 : (buildL x).take (E + 4) = codedL x := by
    have : (codedL x).length = E + 4 := by rw [hcd, List.length_append, hp, codeL_len]
    unfold buildL
    rw [List.take_append_of_le_length (by omega), List.take_of_length_le (by omega)]
  have e3 : (codedL x).drop E = codeL (preL x) c := by
    rw [hcd, ← hp, List.drop_left]
  rw [e1, e2, e3]
  exact beq_self_eq_true _

end Go.Proofs.YtlnjphggfbiabaaGreat
