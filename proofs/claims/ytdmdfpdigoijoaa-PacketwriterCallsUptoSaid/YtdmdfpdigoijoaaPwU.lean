/-
  Chapter 52: Once of the reference; equal images compare as equal.
-/
import Derived.Test.YtdmdfpdigoijoaaPwO
namespace Go.Proofs.Ytdmdfpdigoijoaa
open Go.RowKit
set_option linter.unusedVariables false

set_option maxHeartbeats 1000000 in
theorem sameimg_same (A A' : Option Addr) (c c' : Nat) (img : Img) (w : World) (h : SlAt w w.heap.size A (strV img)) (h' : SlAt w w.heap.size A' (strV img)) (hl : img.length ≤ 1000000) :
    Calls Try.prog 22 #[.slice A img.length c, .slice A' img.length c'] w fun e w' => e = .returned (.bool true) ∧ Below w.heap.size w w' := by
  have HS := Lib.hid h
  have HS' := Lib.hid h'
  obtain ⟨n, hn⟩ : ∃ n, img.length = n := ⟨_, rfl⟩
  have HN := Lib.hid hn
  rw [hn] at hl ⊢
  clear h h' hn
  go_enter Try.func22, Try.ntmps22
  go_wp2_with fail
  go_loopw [5] (fun i wr => ∃ k : Nat, k ≤ n ∧ i = .int .i64 k ∧ Below w.heap.size w wr) (fun i _ => n - (intOf i).toNat)
  case atStart => exact ⟨0, by omega, rfl, Below.refl _ _⟩
  case round =>
    obtain ⟨k, hk, rfl, hbel⟩ := hrel
    by_cases hlt : k < n
    · obtain ⟨s, hs⟩ : ∃ s, img[k]? = some s := ⟨img[k]'(by rw [HN.out]; exact hlt), List.getElem?_eq_getElem _⟩
      obtain ⟨b, off, hA, hbk⟩ := HS.out.strAddr (by rw [HN.out]; omega)
      obtain ⟨b', off', hA', hbk'⟩ := HS'.out.strAddr (by rw [HN.out]; omega)
      subst hA hA'
      have p0 := (HS.out.below hbel).str rfl hs
      have q0 := (HS'.out.below hbel).str rfl hs
      have hltI : (k : Int) < (n : Int) := by omega
      have h0k : (0 : Int) ≤ (k : Int) := by omega
      clear hs
      go_wp2_with fail
      go_quiet (fail)
      go_wp2_with fail
      go_roundw
      case rel => first | exact ⟨k + 1, by omega, by go_num, below_drewN hbel _⟩ | exact ⟨_, _, _, ⟨k + 1, by omega, by simp, below_drewN hbel _⟩, rfl, rfl, rfl⟩
      case measure => simp [intOf]; omega
    · have hge : ¬ (k : Int) < (n : Int) := by omega
      go_wp2_with fail
      go_ret
      exact ⟨rfl, hbel⟩
theorem hasB_lt {out : Img} {a : Nat} (h : hasB out a = true) : a < out.length := by
  unfold hasB at h
  rcases Nat.lt_or_ge a out.length with hl | hl
  · exact hl
  · rw [List.getElem?_eq_none hl] at h; cases h
theorem hasB_put {out : Img} {a : Nat} {b : ByteArray} (hb : b.toList ≠ []) (d : Nat) : hasB (putL out a b) d = (decide (d = a) || hasB out d) := by
  unfold hasB putL
  by_cases h : d = a
  · subst h
    rw [List.getElem?_set_self (by rw [List.length_append, List.length_replicate]; omega)]
    simp [hb]
  · rw [List.getElem?_set_ne (by omega), decide_eq_false h, Bool.false_or]
    rcases Nat.lt_or_ge d out.length with hl | hl
    · rw [List.getElem?_append_left hl]
    · rw [List.getElem?_append_right hl, List.getElem?_eq_none hl]
      cases hr : (List.replicate (a + 1 - out.length) blankS)[d - out.length]? with
      | none => rfl
      | some x =>
        have := List.mem_of_getElem? hr
        rw [List.mem_replicate] at this
        rw [this.2]
        show (!blankS.toList.isEmpty) = false
        rw [ByteArray.toList_eq]
        rfl
end Go.Proofs.Ytdmdfpdigoijoaa
