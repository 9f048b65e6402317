/-
  A byte that does not matter changes nothing, in plain mathematics.
-/
import Derived.Test.YtjlppndlgdgekaaCut
namespace Go.Proofs.Ytjlppndlgdgekaa
set_option linter.unusedVariables false

def matB (n e o : Nat) : Bool := if 2 * n ≤ e then decide (n = 1 ∧ e = 2 ∧ o = 0) else if 2 ≤ e ∧ e % 2 = 0 then decide (o < 4) else decide (o < 4 ∨ (6 ≤ o ∧ o < 12))
theorem set_get_ne {l : List UInt8} {i j : Nat} {v : UInt8} (h : i ≠ j) : (l.set i v)[j]? = l[j]? := by
  rw [List.getElem?_set, if_neg h]
theorem ign_cat {l : List Img} (hok : ∀ x ∈ l, ImOk x) (hn : l.length ≤ 32) {i : Nat} (v : UInt8) (h32 : 32 ≤ i) (hm : matB l.length (i / 32) (i % 32) = false) : Cat l ((encL l).set i v) := by
  have hC := cat_enc hok hn
  refine ⟨by rw [List.length_set, hC.len], fun x hx => ?_, fun k x hx => ?_, fun k x hk hx => ?_, fun h1 => ?_⟩
  · rw [entAt_set_ne (by omega)]
    exact hC.head x hx
  · have hkl := (List.getElem?_eq_some_iff.1 hx).1
    by_cases he : i / 32 = 2 * k + 1
    · rw [entAt_set_eq (o := i % 32) (by omega) (by omega)]
      unfold matB at hm
      rw [if_neg (by omega), if_neg (by omega), decide_eq_false_iff_not] at hm
      exact imEnt_congr (fun j hj => set_get_ne (by omega)) (hC.img k x hx)
    · rw [entAt_set_ne he]
      exact hC.img k x hx
  · have hkl := (List.getElem?_eq_some_iff.1 hx).1
    by_cases he : i / 32 = 2 * k
    · rw [entAt_set_eq (o := i % 32) (by omega) (by omega)]
      unfold matB at hm
      rw [if_neg (by omega), if_pos (by omega), decide_eq_false_iff_not] at hm
      exact hdEnt_congr (fun j hj => set_get_ne (by omega)) (hC.hdr k x hk hx)
    · rw [entAt_set_ne he]
      exact hC.hdr k x hk hx
  · by_cases he : i / 32 = 2
    · rw [entAt_set_eq (o := i % 32) (by omega) (by omega)]
      unfold matB at hm
      rw [if_pos (by omega), decide_eq_false_iff_not] at hm
      rw [byteL_congr (set_get_ne (show i % 32 ≠ 0 by omega))]
      exact hC.fin h1
    · rw [entAt_set_ne he]
      exact hC.fin h1
end Go.Proofs.Ytjlppndlgdgekaa
