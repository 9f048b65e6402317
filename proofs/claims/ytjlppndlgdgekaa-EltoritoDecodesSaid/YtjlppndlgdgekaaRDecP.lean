/-
  The reference's Decode in plain Lean: section by section.
-/
import Derived.Test.YtjlppndlgdgekaaRRead
namespace Go.Proofs.Ytjlppndlgdgekaa
set_option linter.unusedVariables false

/-- The entries from number k on. -/
def fromE (s : List UInt8) (k : Nat) : List (List UInt8) := (List.range' k (64 - k)).map (entAt s)
theorem fromE_cons (s : List UInt8) {k : Nat} (h : k < 64) : fromE s k = entAt s k :: fromE s (k + 1) := by
  unfold fromE
  rw [show 64 - k = (64 - (k + 1)) + 1 by omega, List.range'_succ, List.map_cons]
theorem fromE_nil (s : List UInt8) {k : Nat} (h : 64 ≤ k) : fromE s k = [] := by
  unfold fromE
  rw [show 64 - k = 0 by omega]
  rfl
/-- What is answered where some images of a section are left. -/
def secD (s : List UInt8) (k : Nat) (sys : Int) (more : Bool) (hd left : Int) (out : List Img) : Int × List Img :=
  if left = 0 then (if more then runL (fromE s k) ⟨sys, 0, true, hd, out⟩ else (0, out)) else runL (fromE s k) ⟨sys, left, more, hd, out⟩
theorem run_secD (s : List UInt8) (k : Nat) (sys : Int) (more : Bool) (hd left : Int) (out : List Img) (hl : 0 ≤ left) :
    (if endD ⟨sys, left, more, hd, out⟩ then (0, out) else runL (fromE s k) ⟨sys, left, more, hd, out⟩) = secD s k sys more hd left out := by
  unfold secD endD
  by_cases h : left = 0
  · subst h
    cases more <;> rfl
  · rw [if_neg h]
    dsimp only
    rw [show (left == 0) = false from beq_eq_false_iff_ne.2 h]
    rfl
theorem sec_over {s : List UInt8} {k : Nat} {sys : Int} {more : Bool} {hd left : Int} {out : List Img} (h : 0 < left) (hk : 64 ≤ k) : secD s k sys more hd left out = (10, []) := by
  unfold secD
  rw [if_neg (by omega), fromE_nil s hk]
  rfl
theorem sec_img {s : List UInt8} {k : Nat} {sys : Int} {more : Bool} {hd left : Int} {out : List Img} (h : 0 < left) (hk : k < 64) (he : (rdR (entAt s k) sys).2 = 0) :
    secD s k sys more hd left out = secD s (k + 1) sys more hd (left - 1) (out ++ [(rdR (entAt s k) sys).1]) := by
  have h1 : ¬ (byteL (entAt s k) 0 ≠ 136 ∧ byteL (entAt s k) 0 ≠ 0) := fun c => by unfold rdR at he; rw [if_pos c] at he; cases he
  have h2 : ¬ 4 < byteL (entAt s k) 1 := fun c => by unfold rdR at he; rw [if_neg h1, if_pos c] at he; cases he
  have hx : (rdR (entAt s k) sys).1 = imgOf sys (entAt s k) := by unfold rdR; rw [if_neg h1, if_neg h2]
  rw [hx, ← run_secD s (k + 1) sys more hd (left - 1) _ (by omega)]
  unfold secD
  rw [if_neg (by omega), fromE_cons s hk, runL, step_img h (by omega) (by omega)]
theorem sec_bad {s : List UInt8} {k : Nat} {sys : Int} {more : Bool} {hd left : Int} {out : List Img} (h : 0 < left) (hk : k < 64) (he : (rdR (entAt s k) sys).2 ≠ 0) :
    secD s k sys more hd left out = ((rdR (entAt s k) sys).2, []) := by
  unfold secD
  rw [if_neg (by omega), fromE_cons s hk, runL]
  unfold rdR at *
  by_cases h1 : byteL (entAt s k) 0 ≠ 136 ∧ byteL (entAt s k) 0 ≠ 0
  · rw [if_pos h1, step_bad1 h h1.1 h1.2]
  · rw [if_neg h1] at he ⊢
    by_cases h2 : 4 < byteL (entAt s k) 1
    · rw [if_pos h2, step_bad2 h (by omega) h2]
    · rw [if_neg h2] at he
      exact absurd rfl he
theorem hdr_ok {s : List UInt8} {k : Nat} {p hd : Int} {out : List Img} (hk : k < 64) (h0 : byteL (entAt s k) 0 = 144 ∨ byteL (entAt s k) 0 = 145) (hp : platB (byteL (entAt s k) 1) = true) :
    runL (fromE s k) ⟨p, 0, true, hd, out⟩ = secD s (k + 1) (byteL (entAt s k) 1) (byteL (entAt s k) 0 == 144) (hd + 1) (rdL (entAt s k) 2 2) out := by
  rw [← run_secD s (k + 1) _ _ _ _ _ (rdL_bd2 _ _).1, fromE_cons s hk, runL, step_hdr (by dsimp only; omega) h0 hp]
end Go.Proofs.Ytjlppndlgdgekaa
