/-
  Equal lists of images compare as equal.
-/
import Derived.Test.YtjlppndlgdgekaaPart2
import Derived.BigQuiet
import Derived.Deep.RegionWith
namespace Go.Proofs.Ytjlppndlgdgekaa
open Go.RowKit
set_option linter.unusedVariables false

set_option maxHeartbeats 1000000 in
theorem imgs_same (A A' : Option Addr) (c c' : Nat) (l : List Img) (w : World) (h : SlAt w w.heap.size A (flat encI l)) (h' : SlAt w w.heap.size A' (flat encI l)) (hl : l.length ≤ 1000000) :
    Calls Try.prog 15 #[.slice A l.length c, .slice A' l.length c'] w fun e w' => e = .returned (.bool true) ∧ Below w.heap.size w w' := by
  by_cases h0 : 0 < l.length
  · have hf : 0 < (flat encI l).length := by rw [flat_length encI_length]; omega
    obtain ⟨b, off, hA, hb, hc⟩ := h.one hf
    obtain ⟨b', off', hA', hb', hc'⟩ := h'.one hf
    obtain ⟨n, hn⟩ : ∃ n, l.length = n := ⟨_, rfl⟩
    have HN := Lib.hid hn
    have HC := Lib.hid h
    have HC' := Lib.hid h'
    subst hA hA'
    rw [hn] at hl h0 ⊢
    clear hc hc' h h' hn hf
    go_enter Try.func15, Try.ntmps15
    go_wp2_with fail
    go_loopw [5] (fun i wr => ∃ k : Nat, k ≤ n ∧ i = .int .i64 k ∧ Below w.heap.size w wr) (fun i _ => n - (intOf i).toNat)
    case atStart => exact ⟨0, by omega, rfl, Below.refl _ _⟩
    case round =>
      obtain ⟨k, hk, rfl, hbel⟩ := hrel
      by_cases hlt : k < n
      · obtain ⟨s, hs⟩ : ∃ s, l[k]? = some s := ⟨l[k]'(by rw [HN.out]; exact hlt), List.getElem?_eq_getElem _⟩
        obtain ⟨p0, p1, p2, p3, p4, p5⟩ := img_cells (HC.out.below hbel) rfl hs
        obtain ⟨q0, q1, q2, q3, q4, q5⟩ := img_cells (HC'.out.below hbel) rfl hs
        have hltI : (k : Int) < (n : Int) := by omega
        have h0k : (0 : Int) ≤ (k : Int) := by omega
        clear hs
        go_wp2_with fail
        go_quiet (fail)
        go_wp2_with fail
        go_roundw
        case rel => first | exact ⟨k + 1, by omega, by go_num, below_drewN hbel _⟩ | exact ⟨_, _, _, ⟨k + 1, by omega, by simp, below_drewN hbel _⟩, rfl, rfl, rfl⟩
        case measure => simp [intOf]; omega
      · have hge : ¬ (k : Int) < (n : Int) := by omega
        go_wp2_with fail
        go_ret
        exact ⟨rfl, hbel⟩
  · obtain rfl : l = [] := List.eq_nil_of_length_eq_zero (by omega)
    rw [List.length_nil]
    clear h h' hl h0
    go_enter Try.func15, Try.ntmps15
    go_wp2_with fail
    go_rounds 1
    go_ret
    exact ⟨rfl, Below.refl _ _⟩

end Go.Proofs.Ytjlppndlgdgekaa
