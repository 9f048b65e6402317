/-
  Chapter 52: the example that the law checks first: plain facts.
-/
import Derived.Test.YtdmdfpdigoijoaaPwE
namespace Go.Proofs.Ytdmdfpdigoijoaa
open Go.RowKit
set_option linter.unusedVariables false

/-- The example's row of blocks. -/
def awR (a c z : ByteArray) : List ByteArray := [a, a, a, a, a, a, a, z, a, z, z, z, z, z, z, c]
def awL (a : ByteArray) : List Pend := [⟨18, a⟩, ⟨19, a⟩, ⟨20, a⟩, ⟨21, a⟩, ⟨22, a⟩, ⟨23, a⟩, ⟨24, a⟩, ⟨26, a⟩]
def awW (gb : Nat) (a c z : ByteArray) : List Wr := flWs gb 18 (awR a c z) 2 2
theorem aw_asg : asgL 10 18 [] 8 = some [18, 19, 20, 21, 22, 23, 24, 26] := by kernel_rfl
theorem aw_more (a : ByteArray) : moreP [] [18, 19, 20, 21, 22, 23, 24, 26] (List.replicate 8 a) 8 = awL a := by kernel_rfl
theorem aw_ctl (a : ByteArray) : ctlL 10 18 (awL a) = 33 := by kernel_rfl
theorem aw_open (a : ByteArray) (h : a.toList ≠ []) : openL (awL a) = [] := by
  unfold openL awL
  simp [h]
theorem aw_all (a c : ByteArray) (h : c.toList ≠ []) : flAll 10 18 (awL a) c = awR a c (fillS 0) := by
  unfold flAll flCtl
  rw [if_neg h]
  rfl
theorem aw_steps (gb : Nat) (a c z : ByteArray) : nSt (awW gb a c z) = 16 := by kernel_rfl
theorem aw_cut (gb : Nat) (a c z : ByteArray) : cutL 16 (stepsL (awW gb a c z)) [] = List.replicate 18 blankS ++ awR a c z := by kernel_rfl
theorem aw_cut9 (gb : Nat) (a c z : ByteArray) : cutL 9 (stepsL (awW gb a c z)) [] = List.replicate 18 blankS ++ [a, a, a, a, a, a, a, z, a, unrS] := by kernel_rfl
theorem aw_wr (gb : Nat) (a c z : ByteArray) (ha : blkOk a = true) (hc : blkOk c = true) (hz : blkOk z = true) : (awW gb a c z).all wrOk = true := by
  have h1 : wrOk ⟨18, some ⟨gb, 0, none⟩, 8, [a, a, a, a, a, a, a, z], false, false⟩ = true := by
    unfold wrOk
    simp [ha, hz]
  have h2 : wrOk ⟨26, some ⟨gb, 8, none⟩, 8, [a, z, z, z, z, z, z, c], true, false⟩ = true := by
    unfold wrOk
    simp [ha, hz, hc]
  show ([⟨18, some ⟨gb, 0, none⟩, 8, [a, a, a, a, a, a, a, z], false, false⟩, ⟨26, some ⟨gb, 8, none⟩, 8, [a, z, z, z, z, z, z, c], true, false⟩] : List Wr).all wrOk = true
  simp [h1, h2]
theorem aw_valid0 (gb : Nat) (a c z : ByteArray) (ha : blkOk a = true) (hc : blkOk c = true) (hz : blkOk z = true) : validB [] (awW gb a c z) = true := by
  unfold validB
  rw [aw_wr gb a c z ha hc hz]
  rfl
theorem aw_valid (gb : Nat) (a c z : ByteArray) (ha : blkOk a = true) (hc : blkOk c = true) (hz : blkOk z = true) : validB (List.replicate 18 blankS ++ awR a c z) (awW gb a c z) = true := by
  unfold validB
  rw [aw_wr gb a c z ha hc hz]
  have : (List.replicate 18 blankS ++ awR a c z).all elOk = true := by
    have hb : blankS.toList = [] := by rw [ByteArray.toList_eq]; rfl
    unfold awR
    rw [List.all_append]
    simp [hb, elOk, ha, hc, hz]
  rw [this]
  rfl
theorem aw_once (gb : Nat) (a c z : ByteArray) (ha : blkOk a = true) (hc : blkOk c = true) (hz : blkOk z = true) : onceB [] (awW gb a c z) = true := by
  unfold onceB
  rw [aw_valid0 gb a c z ha hc hz]
  show (true && (List.range 16).all _) = true
  kernel_rfl
theorem aw_rec (gb : Nat) (a c z : ByteArray) (ha : blkOk a = true) (hc : blkOk c = true) (hz : blkOk z = true) : cutR [] (awW gb a c z) ((nSt (awW gb a c z) : Nat) : Int) = (List.replicate 18 blankS ++ awR a c z, 0) := by
  unfold cutR
  rw [aw_valid0 gb a c z ha hc hz, aw_steps, if_pos rfl, if_neg (by omega)]
  rw [show ((16 : Nat) : Int).toNat = 16 from rfl, aw_cut]
theorem aw_rec9 (gb : Nat) (a c z : ByteArray) (ha : blkOk a = true) (hc : blkOk c = true) (hz : blkOk z = true) : cutR [] (awW gb a c z) 9 = (List.replicate 18 blankS ++ [a, a, a, a, a, a, a, z, a, unrS], 0) := by
  unfold cutR
  rw [aw_valid0 gb a c z ha hc hz, aw_steps, if_pos rfl, if_neg (by omega)]
  rw [show (9 : Int).toNat = 9 from rfl, aw_cut9]
end Go.Proofs.Ytdmdfpdigoijoaa
