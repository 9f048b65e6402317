/-
  A change of one byte of the validation entry is seen, in plain mathematics.
-/
import Derived.Test.YtjlppndlgdgekaaCat
namespace Go.Proofs.Ytjlppndlgdgekaa
set_option linter.unusedVariables false

def wei (i : Nat) : Nat := if i % 2 = 0 then 1 else 256
theorem wei_two (i : Nat) : wei (i + 2) = wei i := by unfold wei; rw [show (i + 2) % 2 = i % 2 by omega]
theorem sumN_set : ∀ (l : List UInt8) (i : Nat) (v old : UInt8), l[i]? = some old → l.length % 2 = 0 → sumN (l.set i v) + old.toNat * wei i = sumN l + v.toNat * wei i
  | [], _, _, _, h, _ => by simp at h
  | [a], _, _, _, _, h => by simp at h
  | a :: b :: r, 0, v, old, h, _ => by
    simp at h
    subst h
    simp [sumN, wei]
    omega
  | a :: b :: r, 1, v, old, h, _ => by
    simp at h
    subst h
    simp [sumN, wei]
    omega
  | a :: b :: r, i + 2, v, old, h, hl => by
    have ih := sumN_set r i v old (by simpa using h) (by simp at hl; omega)
    rw [wei_two]
    simp only [List.set_cons_succ, sumN]
    omega
theorem sum_bad {l : List UInt8} {i : Nat} {v old : UInt8} (h : l[i]? = some old) (hl : l.length % 2 = 0) (h0 : sumS l = 0) (hv : v ≠ old) : sumS (l.set i v) ≠ 0 := by
  have h1 := sumN_set l i v old h hl
  have h2 := v.toNat_lt
  have h3 := old.toNat_lt
  have h4 : v.toNat ≠ old.toNat := fun e => hv (UInt8.toNat_inj.1 e)
  unfold sumS at *
  have : wei i = 1 ∨ wei i = 256 := by unfold wei; split <;> simp
  rcases this with h5 | h5
  · rw [h5] at h1
    omega
  · rw [h5] at h1
    omega
theorem entAt_set {s : List UInt8} {i j : Nat} {v : UInt8} : entAt (s.set i v) j = if 32 * j ≤ i ∧ i < 32 * j + 32 then (entAt s j).set (i - 32 * j) v else entAt s j := by
  apply List.ext_getElem?
  intro k
  by_cases hk : k < 32
  · rw [entAt_get hk, List.getElem?_set]
    by_cases h : 32 * j ≤ i ∧ i < 32 * j + 32
    · rw [if_pos h, List.getElem?_set]
      by_cases he : i = 32 * j + k
      · rw [if_pos he, if_pos (show i - 32 * j = k by omega)]
        have hlen : (entAt s j)[k]? = s[32 * j + k]? := entAt_get hk
        by_cases hl : i < s.length
        · rw [if_pos hl, if_pos]
          have : k < (entAt s j).length := by
            unfold entAt
            rw [List.length_take, List.length_drop]
            omega
          omega
        · rw [if_neg hl, if_neg]
          have : (entAt s j).length ≤ k := by
            unfold entAt
            rw [List.length_take, List.length_drop]
            omega
          omega
      · rw [if_neg he, if_neg (show ¬ i - 32 * j = k by omega), entAt_get hk]
    · rw [if_neg h, if_neg (show ¬ i = 32 * j + k by omega), entAt_get hk]
  · have h1 : ∀ t : List UInt8, (entAt t j).length ≤ 32 := fun t => by unfold entAt; rw [List.length_take]; omega
    rw [List.getElem?_eq_none (by have := h1 (s.set i v); omega)]
    symm
    apply List.getElem?_eq_none
    have := h1 s
    split
    · rw [List.length_set]; omega
    · omega
theorem key_dec {l : List Img} (h0 : 0 < l.length) (hn : l.length ≤ 32) (hok : ∀ x ∈ l, ImOk x) {i : Nat} (hi : i < 32) {old v : UInt8} (ho : (encL l)[i]? = some old) (hv : v ≠ old) : decR ((encL l).set i v) = (10, []) := by
  obtain ⟨x, hx⟩ : ∃ x, l[0]? = some x := ⟨_, List.getElem?_eq_getElem h0⟩
  have hp := (hok x (List.mem_of_getElem? hx)).plat
  obtain ⟨_, _, v2, v3⟩ := valL_ok hp
  have he : entAt (encL l) 0 = valL x.plat := by
    have := encL_head hx
    rw [if_pos rfl] at this
    exact this
  have ho' : (valL x.plat)[i]? = some old := by
    rw [← he, entAt_get hi, Nat.mul_zero, Nat.zero_add, ho]
  have hk : keyOk ((valL x.plat).set i v) = false := by
    unfold keyOk
    rw [beq_eq_false_iff_ne.2 (sum_bad ho' (by rw [v3]) v2 hv)]
    simp
  unfold decR
  rw [if_neg (by rw [List.length_set, encL_length hn]; decide), entAt_set, if_pos (show 32 * 0 ≤ i ∧ i < 32 * 0 + 32 by omega), he, Nat.mul_zero, Nat.sub_zero, hk, if_neg (by decide)]
theorem xor_ne {a b : UInt8} (h : b ≠ 0) : a ^^^ b ≠ a := fun e => h (by
  have : a ^^^ (a ^^^ b) = a ^^^ a := by rw [e]
  rw [← UInt8.xor_assoc, UInt8.xor_self, UInt8.zero_xor] at this
  exact this)
end Go.Proofs.Ytjlppndlgdgekaa
