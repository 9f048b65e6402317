/-
  Blocks of zero bytes; equal lists of strings, of sectors and of packets compare as equal.
-/
import Derived.Test.YticmopgpfplbnaaRVal
import Derived.Test.YticmopgpfplbnaaShelf
import Derived.Test.YticmopgpfplbnaaRows2
import Derived.Deep.Cut
import Derived.Handy
namespace Go.Proofs.Yticmopgpfplbnaa
open Go.RowKit
set_option linter.unusedVariables false

def zeroBlk : ByteArray := ⟨(List.replicate 2048 (0 : UInt8)).toArray⟩
theorem repeat_zeros (n : Nat) : Lib.repeatL [0] n = List.replicate n 0 := by
  induction n with
  | zero => rfl
  | succ n ih => rw [Lib.repeatL, ih]; rfl
theorem zeroBlk_size : zeroBlk.size = 2048 := by
  show (List.replicate 2048 (0 : UInt8)).toArray.size = 2048
  rw [List.size_toArray, List.length_replicate]
theorem zeros_any (w : World) : Calls Try.prog 35 #[] w fun e w' => e = .returned (.string zeroBlk) ∧ Below w.heap.size w w' := by
  have C : Hid (∀ w, Calls Try.prog 41 #[.string ⟨#[0]⟩, .int .i64 2048] w fun e w' => e = .returned (.string zeroBlk) ∧ Below w.heap.size w w') := by
    have := fun w => Try.strings_Repeat ⟨#[0]⟩ 2048 w (by omega) (by decide)
    rwa [show (⟨(Lib.repeatL (⟨#[0]⟩ : ByteArray).data.toList 2048).toArray⟩ : ByteArray) = zeroBlk by unfold zeroBlk; rw [← repeat_zeros]] at this
  go_enter Try.func35, Try.ntmps35
  go_wp2_with fail
  refine (C.out _).mono ?_
  rintro e w1 ⟨rfl, hb1⟩
  go_wp2_with fail
  go_ret
  exact ⟨rfl, hb1⟩
theorem rzero_any (w : World) : Calls Try.prog 28 #[] w fun e w' => e = .returned (.string zeroBlk) ∧ Below w.heap.size w w' := by
  have C : Hid (∀ w, Calls Try.prog 40 #[.int .u8 0, .int .i64 2048] w fun e w' => e = .returned (.string zeroBlk) ∧ Below w.heap.size w w') := fun w => rep_any 0 2048 w (by omega)
  go_enter Try.func28, Try.ntmps28
  go_wp2_with fail
  refine (C.out _).mono ?_
  rintro e w1 ⟨rfl, hb1⟩
  go_wp2_with fail
  go_ret
  exact ⟨rfl, hb1⟩

/-- The cell of an element of a slice of strings, under the test of a loop. -/
theorem sl_cell {w : World} {B : Nat} {A : Option Addr} {xs : List Value} (h : SlAt w B A xs) {b off : Nat} (hA : A = some ⟨b, off, none⟩) {k : Nat} {u : Value} (hk : xs[k]? = some u) : w.cell? ⟨b, off + k, none⟩ = some u := by
  obtain ⟨b', off', e, _, hc⟩ := h k u hk
  rw [hA] at e
  injection e with e
  injection e with e1 e2 _
  subst e1 e2
  exact hc

set_option maxHeartbeats 1000000 in
theorem strings_same (A A' : Option Addr) (c c' : Nat) (ss : List ByteArray) (w : World) (h : SlAt w w.heap.size A (ss.map Value.string)) (h' : SlAt w w.heap.size A' (ss.map Value.string)) (hl : ss.length ≤ 1000000) :
    Calls Try.prog 27 #[.slice A ss.length c, .slice A' ss.length c'] w fun e w' => e = .returned (.bool true) ∧ Below w.heap.size w w' := by
  by_cases h0 : 0 < ss.length
  · obtain ⟨b, off, rfl, hb, hc⟩ := h.one (by simpa using h0)
    obtain ⟨b', off', rfl, hb', hc'⟩ := h'.one (by simpa using h0)
    obtain ⟨n, hn⟩ : ∃ n, ss.length = n := ⟨_, rfl⟩
    have HN := Lib.hid hn
    have HC := Lib.hid hc
    have HC' := Lib.hid hc'
    rw [hn] at hl h0 ⊢
    clear hc hc' h h' hn
    go_enter Try.func27, Try.ntmps27
    go_wp2_with fail
    go_loopw [5] (fun i wr => ∃ k : Nat, k ≤ n ∧ i = .int .i64 k ∧ Below w.heap.size w wr) (fun i _ => n - (intOf i).toNat)
    case atStart => exact ⟨0, by omega, rfl, Below.refl _ _⟩
    case round =>
      obtain ⟨k, hk, rfl, hbel⟩ := hrel
      by_cases hlt : k < n
      · obtain ⟨s, hs⟩ : ∃ s, ss[k]? = some s := ⟨ss[k]'(by rw [HN.out]; exact hlt), List.getElem?_eq_getElem _⟩
        have g1 := (hbel.cell (p := ⟨b, off + k, none⟩) hb).trans (HC.out k (.string s) (by simp [hs]))
        have g2 := (hbel.cell (p := ⟨b', off' + k, none⟩) hb').trans (HC'.out k (.string s) (by simp [hs]))
        have hltI : (k : Int) < (n : Int) := by omega
        have h0k : (0 : Int) ≤ (k : Int) := by omega
        clear hs
        go_wp2_with fail
        go_quiet (fail)
        go_wp2_with fail
        go_roundw
        case rel => first | exact ⟨k + 1, by omega, by go_num, below_drewN hbel _⟩ | exact ⟨_, _, _, ⟨k + 1, by omega, by simp, below_drewN hbel _⟩, rfl, rfl, rfl⟩
        case measure => simp [intOf]; omega
      · have hge : ¬ (k : Int) < (n : Int) := by omega
        go_wp2_with fail
        go_ret
        exact ⟨rfl, hbel⟩
  · obtain rfl : ss = [] := List.eq_nil_of_length_eq_zero (by omega)
    rw [List.length_nil]
    clear h h' hl h0
    go_enter Try.func27, Try.ntmps27
    go_wp2_with fail
    go_rounds 1
    go_ret
    exact ⟨rfl, Below.refl _ _⟩
end Go.Proofs.Yticmopgpfplbnaa
