/-
  The walk of the law EltoritoReturns.
-/
import Derived.Test.YtjlppndlgdgekaaAwake
import Derived.Test.YtjlppndlgdgekaaOpenI
import Derived.Test.YtjlppndlgdgekaaCat
namespace Go.Proofs.Ytjlppndlgdgekaa
open Go.RowKit
set_option linter.unusedVariables false

theorem encS_size {l : List Img} (hn : l.length ≤ 32) : (⟨(encL l).toArray⟩ : ByteArray).size = 2048 := by
  have := encL_length hn
  show (encL l).toArray.size = 2048
  simpa using this
theorem encL_take32 {l : List Img} {x : Img} (hx : l[0]? = some x) : (encL l).take 32 = valL x.plat := by
  have := encL_head hx
  rw [if_pos rfl] at this
  exact this

set_option maxHeartbeats 2000000 in
theorem returns_any (A : Option Addr) (len cap : Nat) (l : List Img) (w : World) (h : IsL encI ImgG w A len cap l) :
    Calls Try.prog 5 #[.slice A len cap] w fun e w' => e = .returned (.bool true) ∧ Below w.heap.size w w' := by
  obtain ⟨rfl, hc, hcm, hsl, _⟩ := h
  have HSL := Lib.hid hsl
  have HC := Lib.hid hc
  have HCM := Lib.hid hcm
  obtain ⟨n, hn⟩ : ∃ n, l.length = n := ⟨_, rfl⟩
  have HN := Lib.hid hn
  have CE : Hid (∀ wx, Below w.heap.size w wx → Calls Try.prog 11 #[.slice A n cap] wx (EncR l wx)) := Lib.hid fun wx hb => by
    have := encode_any A cap l wx ((HSL.out.below hb).mono hb.size) HC.out HCM.out
    rwa [HN.out] at this
  rw [hn]
  clear hsl hc hcm hn
  by_cases h40 : (40 : Int) < (n : Int)
  · go_enter Try.func5, Try.ntmps5
    go_wp2_with fail
    refine (awake_any _).mono ?_
    rintro e w0 ⟨rfl, hb0⟩
    go_wp2_with fail
    go_ret
    exact ⟨rfl, hb0⟩
  · rcases enc_ways l with ⟨hE, hS⟩ | ⟨hE, hS, h0, h1, hok⟩
    · generalize hG : encE l = E at *
      generalize hG2 : encStr l = S at *
      subst hS
      have hEb : (E != 0) = true := by rw [bne_iff_ne]; exact hE
      have HG := Lib.hid hG
      have HG2 := Lib.hid hG2
      clear hG hG2
      go_enter Try.func5, Try.ntmps5
      go_wp2_with fail
      refine (awake_any _).mono ?_
      rintro e w0 ⟨rfl, hb0⟩
      go_wp2_with fail
      refine (CE.out _ hb0).mono ?_
      rintro e w1 ⟨rfl, hb1⟩
      rw [HG.out, HG2.out]
      have hb1 := hb0.trans (hb1.mono hb0.size)
      go_wp2_with fail
      go_ret
      exact ⟨rfl, hb1⟩
    · obtain ⟨x, hx⟩ : ∃ x, l[0]? = some x := ⟨_, List.getElem?_eq_getElem h0⟩
      obtain ⟨S, hSS⟩ : ∃ S : ByteArray, S = ⟨(encL l).toArray⟩ := ⟨_, rfl⟩
      have hd : S.data.toList = encL l := by rw [hSS]
      have hsz : S.size = 2048 := by rw [hSS]; exact encS_size h1
      have HR : Hid (decR S.data.toList = (0, l)) := Lib.hid (by rw [hd]; exact cat_dec (cat_enc hok h1) hok h0 h1)
      have HS : Hid (sumS (S.extract 0 32).data.toList = 0) := Lib.hid (by
        rw [ext_data, hd, List.drop_zero, show 32 - 0 = 32 from rfl, encL_take32 hx]
        exact (valL_ok (hok x (List.mem_of_getElem? hx)).plat).2.2.1)
      have hs32 : (S.extract 0 32).size ≤ 140737488351232 := by simp; omega
      have HSZ := Lib.hid hs32
      have HES : Hid (encStr l = S) := Lib.hid (by rw [hS, hSS])
      have HEE := Lib.hid hE
      have HB : Hid (l.length ≤ 1000000) := Lib.hid (by omega)
      clear hS hSS hd hs32 hE hok h0 h1 hx
      have hszI : (S.size : Int) = 2048 := by omega
      clear hsz
      go_enter Try.func5, Try.ntmps5
      go_wp2_with fail
      refine (awake_any _).mono ?_
      rintro e w0 ⟨rfl, hb0⟩
      go_wp2_with fail
      refine (CE.out _ hb0).mono ?_
      rintro e w1 ⟨rfl, hb1⟩
      rw [HES.out, HEE.out]
      have hb2 := hb0.trans (hb1.mono hb0.size)
      clear hb0 hb1
      go_wp2_with fail
      refine (decode_any S _).mono ?_
      rintro e w3 ⟨hb3, A', c, rfl, hs3⟩
      rw [HR.out] at hs3 ⊢
      dsimp only at hs3 ⊢
      have hb4 := hb2.trans (hb3.mono hb2.size)
      clear hb2 hb3
      have CS := Lib.hid (imgs_same A' A c cap l w3 hs3 ((HSL.out.below hb4).mono hb4.size) HB.out)
      rw [HN.out] at CS ⊢
      go_wp2_with fail
      refine CS.out.mono ?_
      rintro e w4 ⟨rfl, hb5⟩
      have hb6 := hb4.trans (hb5.mono hb4.size)
      clear hb5
      go_wp2_with fail
      refine (sum_any _ _ HSZ.out).mono ?_
      rintro e w5 ⟨rfl, hb7⟩
      have hb8 := hb6.trans (hb7.mono hb6.size)
      rw [HS.out]
      go_wp2_with fail
      go_ret
      exact ⟨rfl, hb8⟩
end Go.Proofs.Ytjlppndlgdgekaa
