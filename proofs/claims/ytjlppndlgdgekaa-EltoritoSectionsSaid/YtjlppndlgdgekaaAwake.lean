/-
  The walk of awake.
-/
import Derived.Test.YtjlppndlgdgekaaDecA
import Derived.Test.YtjlppndlgdgekaaSameI
import Derived.Test.YtjlppndlgdgekaaEncode
namespace Go.Proofs.Ytjlppndlgdgekaa
open Go.RowKit
set_option linter.unusedVariables false

/-- The images of awake. -/
def awL : List Img := [⟨0, 0, 0, 4, 33, true⟩, ⟨239, 0, 0, 0, 40, false⟩]
theorem awE : encE awL = 0 := by decide
theorem aw_all : awL.all imgOk = true := by decide
theorem aw_dec : decR (encL awL) = (0, awL) := by decide +kernel
theorem aw_len : (encL awL).length = 2048 := by decide +kernel
theorem aw_1 : (encL awL).take 14 = [1, 0, 0, 0, 77, 65, 83, 84, 69, 82, 68, 73, 83, 67] := by decide +kernel
theorem aw_2 : ((encL awL).drop 30).take 14 = [85, 170, 136, 0, 0, 0, 0, 0, 4, 0, 33, 0, 0, 0] := by decide +kernel
theorem aw_3 : ((encL awL).drop 64).take 4 = [145, 239, 1, 0] := by decide +kernel
theorem aw_sum : sumS ((encL awL).take 32) = 0 := by decide +kernel
theorem aw_sum2 : sumS [1, 2, 255, 255, 9] = 512 := by decide +kernel

theorem slat_row {W : World} {g : Nat} {t : TypeId} {cs : List Value} (h : RowAt W g t cs.toArray) : SlAt W W.heap.size (some ⟨g, 0, none⟩) cs := fun j u hu =>
  ⟨g, 0, rfl, h.lt, by rw [Nat.zero_add]; have := h.cell j; rw [this]; simpa using hu⟩
theorem ext_list (S : ByteArray) (i j : Nat) : (S.extract i j).toList = (S.data.toList.drop i).take (j - i) := by
  rw [ByteArray.toList_eq, ByteArray.data_extract]
  simp only [Array.toList_extract, List.extract_eq_take_drop]
theorem ext_data (S : ByteArray) (i j : Nat) : (S.extract i j).data.toList = (S.data.toList.drop i).take (j - i) := by
  rw [← ext_list, ByteArray.toList_eq]

set_option maxHeartbeats 2000000 in
theorem awake_any (w : World) : Calls Try.prog 10 #[] w fun e w' => e = .returned (.bool true) ∧ Below w.heap.size w w' := by
  have h1 : St w (w.alloc (.cells (flat encI awL).toArray 34)) [(w.heap.size, 34, (flat encI awL).toArray)] := (St.start w).new rfl _ _
  obtain ⟨S, hS⟩ : ∃ S : ByteArray, S = ⟨(encL awL).toArray⟩ := ⟨_, rfl⟩
  have hd : S.data.toList = encL awL := by rw [hS]
  have hE : encStr awL = S := by rw [encStr_ok awE, hS]
  have hsz : S.size = 2048 := by
    have := aw_len
    rw [← hd] at this
    simpa using this
  have e1 : (S.extract 0 14).toList = [1, 0, 0, 0, 77, 65, 83, 84, 69, 82, 68, 73, 83, 67] := by rw [ext_list, hd]; exact aw_1
  have e2 : (S.extract 30 44).toList = [85, 170, 136, 0, 0, 0, 0, 0, 4, 0, 33, 0, 0, 0] := by rw [ext_list, hd]; exact aw_2
  have e3 : (S.extract 64 68).toList = [145, 239, 1, 0] := by rw [ext_list, hd]; exact aw_3
  have HD : Hid (decR S.data.toList = (0, awL)) := Lib.hid (by rw [hd]; exact aw_dec)
  have HS : Hid (sumS (S.extract 0 32).data.toList = 0) := Lib.hid (by rw [ext_data, hd]; exact aw_sum)
  have hs32 : (S.extract 0 32).size ≤ 140737488351232 := by simp; omega
  have HSZ := Lib.hid hs32
  clear hS hd hs32
  have hszI : (S.size : Int) = 2048 := by omega
  go_enter Try.func10, Try.ntmps10
  go_wp2_with fail
  refine (encode_any (some ⟨w.heap.size, 0, none⟩) 2 awL _ (slat_row (h1.at (i := 0) rfl)) (by decide) (by unfold maxLen; decide)).mono ?_
  rintro e w2 ⟨rfl, hb2⟩
  have h2 := St.call hb2 h1
  rw [hE, awE]
  clear h1 hb2 hE
  go_wp2_with fail
  refine (decode_any S _).mono ?_
  rintro e w3 ⟨hb3, A, c, rfl, hsl⟩
  rw [HD.out] at hsl ⊢
  have h3 := St.call hb3 h2
  clear h2 hb3
  dsimp only at hsl ⊢
  rw [show awL.length = 2 from rfl]
  have CS := Lib.hid (imgs_same A (some ⟨w.heap.size, 0, none⟩) c 2 awL w3 hsl (slat_row (h3.at (i := 0) rfl)) (by decide))
  go_wp2_with fail
  refine CS.out.mono ?_
  rintro e w4 ⟨rfl, hb4⟩
  have h4 := St.call hb4 h3
  go_wp2_with fail
  refine (sum_any _ _ HSZ.out).mono ?_
  rintro e w5 ⟨rfl, hb5⟩
  have h5 := St.call hb5 h4
  rw [HS.out]
  go_wp2_with fail
  refine (sum_any _ _ (by decide)).mono ?_
  rintro e w6 ⟨rfl, hb6⟩
  have h6 := St.call hb6 h5
  rw [show sumS _ = 512 from aw_sum2]
  go_wp2_with fail
  go_ret
  exact ⟨rfl, h6.bel⟩
end Go.Proofs.Ytjlppndlgdgekaa
