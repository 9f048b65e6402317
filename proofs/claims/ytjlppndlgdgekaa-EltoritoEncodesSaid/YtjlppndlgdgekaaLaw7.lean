/-
  The walk of the law EltoritoEncodes.
-/
import Derived.Test.YtjlppndlgdgekaaREnc2
import Derived.Test.YtjlppndlgdgekaaAwake
import Derived.Test.YtjlppndlgdgekaaOpenI
namespace Go.Proofs.Ytjlppndlgdgekaa
open Go.RowKit
set_option linter.unusedVariables false

set_option maxHeartbeats 2000000 in
theorem encodes_any (A : Option Addr) (len cap : Nat) (l : List Img) (w : World) (h : IsL encI ImgG w A len cap l) :
    Calls Try.prog 3 #[.slice A len cap] w fun e w' => e = .returned (.bool true) ∧ Below w.heap.size w w' := by
  obtain ⟨rfl, hc, hcm, hsl, _⟩ := h
  have HSL := Lib.hid hsl
  have HC := Lib.hid hc
  have HCM := Lib.hid hcm
  obtain ⟨n, hn⟩ : ∃ n, l.length = n := ⟨_, rfl⟩
  have HN := Lib.hid hn
  have CE : Hid (∀ wx, Below w.heap.size w wx → Calls Try.prog 11 #[.slice A n cap] wx (EncR l wx)) := Lib.hid fun wx hb => by
    have := encode_any A cap l wx ((HSL.out.below hb).mono hb.size) HC.out HCM.out
    rwa [HN.out] at this
  have CR : Hid (∀ wx, Below w.heap.size w wx → Calls Try.prog 12 #[.slice A n cap] wx (EncR l wx)) := Lib.hid fun wx hb => by
    have := rencode_any A cap l wx ((HSL.out.below hb).mono hb.size)
    rwa [HN.out] at this
  unfold EncR at CE CR
  generalize encE l = E at *
  generalize encStr l = S at *
  rw [hn]
  clear hsl hc hcm hn
  by_cases h40 : (40 : Int) < (n : Int)
  · go_enter Try.func3, Try.ntmps3
    go_wp2_with fail
    refine (awake_any _).mono ?_
    rintro e w0 ⟨rfl, hb0⟩
    go_wp2_with fail
    go_ret
    exact ⟨rfl, hb0⟩
  · go_enter Try.func3, Try.ntmps3
    go_wp2_with fail
    refine (awake_any _).mono ?_
    rintro e w0 ⟨rfl, hb0⟩
    go_wp2_with fail
    refine (CE.out _ hb0).mono ?_
    rintro e w1 ⟨rfl, hb1⟩
    have hb2 := hb0.trans (hb1.mono hb0.size)
    clear hb0 hb1
    go_wp2_with fail
    refine (CR.out _ hb2).mono ?_
    rintro e w2 ⟨rfl, hb3⟩
    have hb4 := hb2.trans (hb3.mono hb2.size)
    go_wp2_with fail
    go_ret
    exact ⟨rfl, hb4⟩
end Go.Proofs.Ytjlppndlgdgekaa
