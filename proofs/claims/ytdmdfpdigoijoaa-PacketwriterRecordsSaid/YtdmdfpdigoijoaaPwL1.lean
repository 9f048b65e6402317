/-
  The walk of the law PacketwriterRecords.
-/
import Derived.Test.YtdmdfpdigoijoaaPwOp
namespace Go.Proofs.Ytdmdfpdigoijoaa
open Go.RowKit
set_option linter.unusedVariables false

set_option maxRecDepth 100000 in
set_option maxHeartbeats 4000000 in
theorem records_walk (A : Option Addr) (len cap : Nat) (img : List ByteArray) (A' : Option Addr) (len' cap' : Nat) (ws : List Wr) (n : Int) (w : World) (i0 : IsL (fun s => [Value.string s]) (fun s => s.size ≤ maxLen) w A len cap img) (i1 : IsL encW (WrG w) w A' len' cap' ws) (i2 : (Lit.int .i64 n).wf = true) :
    Calls Try.prog 3 #[.slice A len cap, .slice A' len' cap', .int .i64 n] w fun e w' => e = .returned (.bool true) ∧ Below w.heap.size w w' := by
  obtain ⟨rfl, _, _, hs, _⟩ := i0.strs
  obtain ⟨rfl, _, _, hw⟩ := i1.wrs
  have HA : Hid (Arg w A A' img ws) := Lib.hid ⟨hs, hw⟩
  have CF := Lib.hid (fun w h => few_any A A' cap cap' img ws w h)
  clear i0 i1 hs hw i2
  obtain ⟨li, hli⟩ : ∃ li, img.length = li := ⟨_, rfl⟩
  obtain ⟨lw, hlw⟩ : ∃ lw, ws.length = lw := ⟨_, rfl⟩
  have HLI := Lib.hid hli
  have HLW := Lib.hid hlw
  rw [hli, hlw] at CF ⊢
  clear hli hlw
  cases hF : fewB img ws with
  | false =>
    rw [hF] at CF
    go_enter Try.func3, Try.ntmps3
    go_wp2_with fail
    refine (awake_any _).mono ?_
    rintro e w0 ⟨rfl, hb0⟩
    go_wp2_with fail
    refine (CF.out _ (HA.out.below hb0).t).mono ?_
    rintro e w' ⟨rfl, rfl⟩
    go_wp2_with fail
    go_ret
    exact ⟨rfl, hb0⟩
  | true =>
    have HG := Lib.hid (few_of hF)
    rw [hF] at CF
    have HS := Lib.hid (fun w h => rsteps_any A' cap' ws w h HG.out.w3 HG.out.x4)
    have HR := Lib.hid (fun w s h => record_any A A' cap cap' img ws w s h HG.out.i6 HG.out.w6 HG.out.x6 HG.out.n12)
    have HC := Lib.hid (fun m w s h => cut_any A A' cap cap' img ws m w s h HG.out.i6 HG.out.w6 HG.out.x6 HG.out.n12)
    have HRC := Lib.hid (fun m w s h => rcut_any A A' cap cap' img ws m w s h HG.out.i6 HG.out.w3 HG.out.x4 HG.out.n12)
    have HV := Lib.hid (fun w s h => valid_any A A' cap cap' img ws w s h HG.out.i6 HG.out.w6 HG.out.x6)
    have HRV := Lib.hid (fun w s h => rvalid_any A A' cap cap' img ws w s h HG.out.i6 HG.out.w6 HG.out.x6)
    have HST := Lib.hid (fun w h => steps_any A' cap' ws w h HG.out.w6 HG.out.x6 HG.out.n12)
    have HO := Lib.hid (fun w s h => once_any A A' cap cap' img ws w s h HG.out.i6 HG.out.w6 HG.out.x6)
    have HRO := Lib.hid (fun w s h => ronce_any A A' cap cap' img ws w s h HG.out.i6 HG.out.w6 HG.out.x6)
    rw [HLI.out, HLW.out] at HR HC HRC HV HRV HO HRO
    rw [HLW.out] at HS HST
    have hN := HG.out.n
    obtain ⟨N, hNN⟩ : ∃ N, nSt ws = N := ⟨_, rfl⟩
    rw [hNN] at HS HR HST hN
    obtain ⟨R1, hR1⟩ : ∃ R, cutR img ws (N : Int) = R := ⟨_, rfl⟩
    obtain ⟨R2, hR2⟩ : ∃ R, cutR img ws n = R := ⟨_, rfl⟩
    have hl1 : R1.1.length ≤ 1000000 := by rw [← hR1]; exact cutR_len' HG.out
    have hl2 : R2.1.length ≤ 1000000 := by rw [← hR2]; exact cutR_len' HG.out
    have HR1 := Lib.hid hR1
    have HR2 := Lib.hid hR2
    clear hF hNN hR1 hR2
    go_enter Try.func3, Try.ntmps3
    go_wp2_with fail
    refine (awake_any _).mono ?_
    rintro e w0 ⟨rfl, hb0⟩
    have HA0 := Lib.hid (HA.out.below hb0)
    go_wp2_with fail
    refine (CF.out _ HA0.out.t).mono ?_
    rintro e w' ⟨rfl, rfl⟩
    go_wp2_with fail
    refine (HS.out _ HA0.out.t).mono ?_
    rintro e w' ⟨rfl, rfl⟩
    go_wp2_with fail
    refine (HR.out _ HA0.out.s HA0.out.t).mono ?_
    rintro e w1 ⟨hb1, A1, c1, rfl, hs1⟩
    rw [HR1.out] at hs1 ⊢
    have HA1 := Lib.hid (HA0.out.below hb1)
    have HB1 := Lib.hid (hb0.trans (hb1.mono hb0.size))
    have HS1 := Lib.hid hs1
    clear hs1 hb1 hb0
    go_wp2_with fail
    refine (HRC.out (N : Int) _ HA1.out.s HA1.out.t).mono ?_
    rintro e w2 ⟨hb2, A2, c2, rfl, hs2⟩
    rw [HR1.out] at hs2 ⊢
    have HA2 := Lib.hid (HA1.out.below hb2)
    have HB2 := Lib.hid (HB1.out.trans (hb2.mono HB1.out.size))
    have HS2 := Lib.hid hs2
    have HS1b := Lib.hid ((HS1.out.below hb2).mono hb2.size)
    clear hs2 hb2
    go_wp2_with fail
    refine (HC.out n _ HA2.out.s HA2.out.t).mono ?_
    rintro e w3 ⟨hb3, A3, c3, rfl, hs3⟩
    rw [HR2.out] at hs3 ⊢
    have HA3 := Lib.hid (HA2.out.below hb3)
    have HB3 := Lib.hid (HB2.out.trans (hb3.mono HB2.out.size))
    have HS3 := Lib.hid hs3
    have HS1c := Lib.hid ((HS1b.out.below hb3).mono hb3.size)
    have HS2c := Lib.hid ((HS2.out.below hb3).mono hb3.size)
    clear hs3 hb3
    go_wp2_with fail
    refine (HRC.out n _ HA3.out.s HA3.out.t).mono ?_
    rintro e w4 ⟨hb4, A4, c4, rfl, hs4⟩
    rw [HR2.out] at hs4 ⊢
    have HA4 := Lib.hid (HA3.out.below hb4)
    have HB4 := Lib.hid (HB3.out.trans (hb4.mono HB3.out.size))
    have HS4 := Lib.hid hs4
    have HS1d := Lib.hid ((HS1c.out.below hb4).mono hb4.size)
    have HS2d := Lib.hid ((HS2c.out.below hb4).mono hb4.size)
    have HS3d := Lib.hid ((HS3.out.below hb4).mono hb4.size)
    have HX := Lib.hid (And.intro HS1d.out (And.intro HS2d.out (And.intro HS3d.out HS4.out)))
    clear hs4 hb4 HA0 HA1 HA2 HA3 HB1 HB2 HB3 HS1 HS1b HS1c HS2 HS2c HS3 HS1d HS2d HS3d HS4
    go_wp2_with fail
    refine (HV.out _ HA4.out.s HA4.out.t).mono ?_
    rintro e w5 ⟨rfl, hb5⟩
    have HA5 := Lib.hid (HA4.out.below hb5)
    go_wp2_with fail
    refine (HRV.out _ HA5.out.s HA5.out.t).mono ?_
    rintro e w6 ⟨rfl, hb6⟩
    have HA6 := Lib.hid (HA5.out.below hb6)
    have HB6 := Lib.hid (hb5.trans (hb6.mono hb5.size))
    clear hb5 hb6
    go_wp2_with fail
    refine (HST.out _ HA6.out.t).mono ?_
    rintro e w7 ⟨rfl, hb7⟩
    have HA7 := Lib.hid (HA6.out.below hb7)
    have HB7 := Lib.hid (HB6.out.trans (hb7.mono HB6.out.size))
    clear hb7
    go_wp2_with fail
    refine (HO.out _ HA7.out.s HA7.out.t).mono ?_
    rintro e w8 ⟨rfl, hb8⟩
    have HA8 := Lib.hid (HA7.out.below hb8)
    have HB8 := Lib.hid (HB7.out.trans (hb8.mono HB7.out.size))
    clear hb8
    go_wp2_with fail
    refine (HRO.out _ HA8.out.s HA8.out.t).mono ?_
    rintro e w9 ⟨rfl, hb9⟩
    have HB9 := Lib.hid (HB8.out.trans (hb9.mono HB8.out.size))
    clear hb9
    go_wp2_with fail
    refine (sameimg_same A1 A2 c1 c2 R1.1 _ ((HX.out.1.below HB9.out).mono HB9.out.size) ((HX.out.2.1.below HB9.out).mono HB9.out.size) hl1).mono ?_
    rintro e w10 ⟨rfl, hb10⟩
    have HB10 := Lib.hid (HB9.out.trans (hb10.mono HB9.out.size))
    clear hb10
    go_wp2_with fail
    refine (sameimg_same A3 A4 c3 c4 R2.1 _ ((HX.out.2.2.1.below HB10.out).mono HB10.out.size) ((HX.out.2.2.2.below HB10.out).mono HB10.out.size) hl2).mono ?_
    rintro e w11 ⟨rfl, hb11⟩
    go_wp2_with fail
    go_ret
    exact ⟨rfl, HB4.out.trans ((HB10.out.trans (hb11.mono HB10.out.size)).mono HB4.out.size)⟩
end Go.Proofs.Ytdmdfpdigoijoaa
