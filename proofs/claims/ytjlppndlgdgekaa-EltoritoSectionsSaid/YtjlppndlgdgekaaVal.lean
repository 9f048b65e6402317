/-
  The validation entry of the program.
-/
import Derived.Test.YtjlppndlgdgekaaImg
namespace Go.Proofs.Ytjlppndlgdgekaa
open Go.RowKit
set_option linter.unusedVariables false

theorem data_mk (l : List UInt8) : (⟨l.toArray⟩ : ByteArray).data.toList = l := rfl
set_option maxHeartbeats 1000000 in
theorem form_any (p sum : Int) (g : Nat) (w : World) (hp0 : 0 ≤ p) (hp1 : p ≤ 255) (hs0 : 0 ≤ sum) (hs1 : sum ≤ 65535) (h : RowAt w g 3 #[.int .i64 p]) :
    Calls Try.prog 45 #[.int .i64 sum, .pointer (some ⟨g, 0, none⟩)] w fun e w' => e = .returned (.string ⟨(formL p sum).toArray⟩) ∧ Below w.heap.size w w' := by
  have C0 := Lib.hid (fun w => zeros_any 14 w (by omega))
  have C1 := Lib.hid (fun w => number_any p 1 w (by omega))
  have C2 := Lib.hid (fun w => number_any sum 2 w (by omega))
  rw [str1 hp0 hp1] at C1
  rw [str2 hs0 hs1] at C2
  have CE := Lib.hid (fun g w h => entry_any [⟨#[1]⟩, ⟨(leB p 1).toArray⟩, ⟨#[0, 0]⟩, ⟨(nameL ++ zs 14).toArray⟩, ⟨(leB sum 2).toArray⟩, ⟨#[85, 170]⟩] g 6 w h (by simp) (formL p sum) (by simp [formL]) (by rw [formL_length]; omega) (by simp))
  rw [formL_length] at CE
  have hF : formL p sum ++ zs (32 - 32) = formL p sum := List.append_nil _
  rw [hF] at CE
  have HA : Hid ((⟨#[77, 65, 83, 84, 69, 82, 68, 73, 83, 67]⟩ : ByteArray) ++ ⟨(zs 14).toArray⟩ = ⟨(nameL ++ zs 14).toArray⟩) := mk_append nameL (zs 14)
  have hz : (⟨(zs 14).toArray⟩ : ByteArray).size ≤ 100 := by show (zs 14).length ≤ 100; rw [zs_length]; omega
  generalize (⟨(leB p 1).toArray⟩ : ByteArray) = S1 at *
  generalize (⟨(leB sum 2).toArray⟩ : ByteArray) = S2 at *
  generalize (⟨(zs 14).toArray⟩ : ByteArray) = Z at *
  generalize (⟨(nameL ++ zs 14).toArray⟩ : ByteArray) = NM at *
  generalize (⟨(formL p sum).toArray⟩ : ByteArray) = FM at *
  have q := h.cell
  have hlt := h.lt
  clear hF h
  go_enter Try.func45, Try.ntmps45
  go_wp2_with fail
  refine (C0.out _).mono ?_
  rintro e w1 ⟨rfl, hb1⟩
  have q1 := (hb1.cell (p := ⟨g, 0, none⟩) hlt).trans (q 0)
  go_wp2_with fail
  refine (C1.out _).mono ?_
  rintro e w2 ⟨rfl, hb2⟩
  have B2 := belowC hb2 hb1
  go_wp2_with fail
  refine (C2.out _).mono ?_
  rintro e w3 ⟨rfl, hb3⟩
  have B3 := belowC hb3 B2
  go_wp2_with fail
  rw [HA.out]
  refine (CE.out _ _ (RowAt.new _ _ _)).mono ?_
  rintro e w4 ⟨rfl, hb4⟩
  go_wp2_with fail
  go_ret
  exact ⟨rfl, belowC hb4 (B3.alloc B3.size _)⟩
theorem valSum_bd (p : Int) : 0 ≤ valSum p ∧ valSum p ≤ 65535 := by unfold valSum; omega
theorem sumS_bd (l : List UInt8) : 0 ≤ sumS l ∧ sumS l ≤ 65535 := by unfold sumS; omega
set_option maxHeartbeats 1000000 in
theorem validation_any (p : Int) (w : World) (hp0 : 0 ≤ p) (hp1 : p ≤ 255) :
    Calls Try.prog 23 #[.int .i64 p] w fun e w' => e = .returned (.string ⟨(valL p).toArray⟩) ∧ Below w.heap.size w w' := by
  obtain ⟨v0, v1⟩ := valSum_bd p
  have CF0 := Lib.hid (fun g w h => form_any p 0 g w hp0 hp1 (by omega) (by omega) h)
  have CFV := Lib.hid (fun g w h => form_any p (valSum p) g w hp0 hp1 v0 v1 h)
  have CS := Lib.hid (fun w => sum_any ⟨(formL p 0).toArray⟩ w (by show (formL p 0).length ≤ _; rw [formL_length]; omega))
  rw [data_mk] at CS
  obtain ⟨s0, s1⟩ := sumS_bd (formL p 0)
  have HV : Hid (valSum p = (65536 - sumS (formL p 0)) % 65536) := rfl
  have HL : Hid (valL p = formL p (valSum p)) := rfl
  rw [HL.out]
  generalize sumS (formL p 0) = S at *
  generalize (⟨(formL p 0).toArray⟩ : ByteArray) = F0 at *
  generalize (⟨(formL p (valSum p)).toArray⟩ : ByteArray) = FV at *
  generalize valSum p = V at *
  have hsv : (65536 - S) % 65536 = V := HV.out.symm
  go_enter Try.func23, Try.ntmps23
  go_wp2_with fail
  have h1 := (St.start w).alloc #[.int .i64 p] 3
  generalize w.alloc (.cells #[.int .i64 p] 3) = W1 at h1 ⊢
  refine (CF0.out _ _ (h1.at (i := 0) rfl)).mono ?_
  rintro e w2 ⟨rfl, hb2⟩
  have h2 := St.call hb2 h1
  clear h1 hb2
  go_wp2_with fail
  refine (CS.out _).mono ?_
  rintro e w3 ⟨rfl, hb3⟩
  have h3 := St.call hb3 h2
  clear h2 hb3
  go_wp2_with fail
  refine (CFV.out _ _ (h3.at (i := 0) rfl)).mono ?_
  rintro e w4 ⟨rfl, hb4⟩
  have h4 := St.call hb4 h3
  go_wp2_with fail
  go_ret
  exact ⟨rfl, h4.bel⟩
end Go.Proofs.Ytjlppndlgdgekaa
