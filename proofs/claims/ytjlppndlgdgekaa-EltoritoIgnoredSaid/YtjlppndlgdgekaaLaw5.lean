/-
  The law EltoritoIgnored for all arguments.
-/
import Derived.Test.YtjlppndlgdgekaaLaw4
namespace Go.Proofs.Ytjlppndlgdgekaa
open Go.RowKit
set_option linter.unusedVariables false

set_option maxHeartbeats 2000000 in
set_option maxRecDepth 100000 in
theorem ign_skip (A : Option Addr) (n cap : Nat) (c d : Int) (w : World) (h : 30 < n) :
    Calls Try.prog 8 #[.slice A n cap, .int .u16 c, .int .u8 d] w fun e w' => e = .returned (.bool true) ∧ Below w.heap.size w w' := by
  have h' : (30 : Int) < (n : Int) := by omega
  go_enter Try.func8, Try.ntmps8
  go_wp2_with fail
  refine (awake_any _).mono ?_
  rintro e w0 ⟨rfl, hb0⟩
  go_wp2_with fail
  go_ret
  exact ⟨rfl, hb0⟩
set_option maxHeartbeats 2000000 in
set_option maxRecDepth 100000 in
theorem ign_err (A : Option Addr) (n cap : Nat) (l : List Img) (c d : Int) (w : World) (hn : n ≤ 30) (hE : encE l ≠ 0) (hS : encStr l = ⟨#[]⟩)
    (CE : ∀ wx, Below w.heap.size w wx → Calls Try.prog 11 #[.slice A n cap] wx (EncR l wx)) :
    Calls Try.prog 8 #[.slice A n cap, .int .u16 c, .int .u8 d] w fun e w' => e = .returned (.bool true) ∧ Below w.heap.size w w' := by
  have HCE := Lib.hid CE
  have hn' : ¬ (30 : Int) < (n : Int) := by omega
  obtain ⟨E, hG⟩ : ∃ E, encE l = E := ⟨_, rfl⟩
  rw [hG] at hE
  have HG := Lib.hid hG
  have HS := Lib.hid hS
  have hEb : (E != 0) = true := by rw [bne_iff_ne]; exact hE
  clear CE hn hG hS hE
  go_enter Try.func8, Try.ntmps8
  go_wp2_with fail
  refine (awake_any _).mono ?_
  rintro e w0 ⟨rfl, hb0⟩
  go_wp2_with fail
  refine (HCE.out _ hb0).mono ?_
  rintro e w1 ⟨rfl, hb1⟩
  rw [HG.out, HS.out]
  have hb2 := hb0.trans (hb1.mono hb0.size)
  go_wp2_with fail
  go_ret
  exact ⟨rfl, hb2⟩
theorem ign_any (A : Option Addr) (len cap : Nat) (l : List Img) (c d : Int) (w : World) (h : IsL encI ImgG w A len cap l) (hc : (Lit.int IntKind.u16 c).wf = true) (hd : (Lit.int IntKind.u8 d).wf = true) :
    Calls Try.prog 8 #[.slice A len cap, .int .u16 c, .int .u8 d] w fun e w' => e = .returned (.bool true) ∧ Below w.heap.size w w' := by
  obtain ⟨rfl, hlc, hcm, hsl, _⟩ := h
  by_cases hs : 30 < l.length
  · exact ign_skip A _ cap c d w hs
  · rcases enc_ways l with ⟨hE, hS⟩ | ⟨hE, hS, h0, h1, hok⟩
    · exact ign_err A _ cap l c d w (by omega) hE hS (enc_at hsl hlc hcm)
    · obtain ⟨c0, c1⟩ := wf_u16 hc
      obtain ⟨d, rfl⟩ := u8_of hd
      have := ign_ok A l.length cap l c.toNat d w rfl (by omega) hE hS h0 (by omega) hok hsl (enc_at hsl hlc hcm)
      rw [Int.toNat_of_nonneg c0] at this
      exact this
end Go.Proofs.Ytjlppndlgdgekaa
