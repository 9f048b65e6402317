/-
  The reference's Decode in plain Lean: what each way of a round answers.
-/
import Derived.Test.YtjlppndlgdgekaaRDecode
namespace Go.Proofs.Ytjlppndlgdgekaa
open Go.RowKit
set_option linter.unusedVariables false

theorem decR_sec {s : List UInt8} (hl : s.length = 2048) (hk : keyOk (entAt s 0) = true) (hp : platB (byteL (entAt s 0) 1) = true) : decR s = secD s 1 (byteL (entAt s 0) 1) true 0 1 [] := by
  unfold decR secD
  rw [if_neg (by omega), if_pos hk, if_pos hp, if_neg (by omega), runD_list]
  rfl
theorem sec_more (s : List UInt8) (k : Nat) (sys hd : Int) (out : List Img) : secD s k sys true hd 0 out = runL (fromE s k) ⟨sys, 0, true, hd, out⟩ := rfl
theorem sec_done (s : List UInt8) (k : Nat) (sys hd : Int) (out : List Img) : secD s k sys false hd 0 out = (0, out) := rfl
theorem hdr_zero {s : List UInt8} {k : Nat} {p : Int} {out : List Img} (hk : k < 64) (h0 : byteL (entAt s k) 0 = 0) : runL (fromE s k) ⟨p, 0, true, 0, out⟩ = (0, out) := by
  rw [fromE_cons s hk, runL, step_none (by dsimp only; omega) h0 rfl]
theorem hdr_bad {s : List UInt8} {k : Nat} {p hd : Int} {out : List Img} (hk : k < 64) (h0 : ¬ (byteL (entAt s k) 0 = 0 ∧ hd = 0)) (h1 : byteL (entAt s k) 0 ≠ 144) (h2 : byteL (entAt s k) 0 ≠ 145) : runL (fromE s k) ⟨p, 0, true, hd, out⟩ = (10, []) := by
  rw [fromE_cons s hk, runL, step_bad3 (by dsimp only; omega) h0 h1 h2]
theorem hdr_plat {s : List UInt8} {k : Nat} {p hd : Int} {out : List Img} (hk : k < 64) (h0 : byteL (entAt s k) 0 = 144 ∨ byteL (entAt s k) 0 = 145) (h1 : platB (byteL (entAt s k) 1) = false) : runL (fromE s k) ⟨p, 0, true, hd, out⟩ = (14, []) := by
  rw [fromE_cons s hk, runL, step_bad4 (by dsimp only; omega) h0 h1]
theorem hdr_over {s : List UInt8} {k : Nat} {st : DSt} (hk : 64 ≤ k) : runL (fromE s k) st = (10, []) := by
  rw [fromE_nil s hk]
  rfl
theorem entB (s : ByteArray) (k j : Nat) (hj : j < 32) (h : 32 * k + j < s.size) : byteL (entAt s.data.toList k) j = (s[32 * k + j].toNat : Int) := by
  unfold byteL
  rw [entAt_get hj, bytes_get s _ h]
  rfl
theorem entB' (s : ByteArray) (k a : Nat) (ha : a = 32 * k) (j : Nat) (hj : j < 32) (h : a + j < s.size) : byteL (entAt s.data.toList k) j = (s[a + j].toNat : Int) := by
  subst ha
  exact entB s k j hj h
theorem entB0 (s : ByteArray) (k a : Nat) (ha : a = 32 * k) (h : a < s.size) : byteL (entAt s.data.toList k) 0 = (s[a].toNat : Int) := by
  subst ha
  exact entB s k 0 (by omega) h
theorem rd_ent (s : ByteArray) (k a : Nat) (ha : a = 32 * k) (hk : k < 64) (h : s.size = 2048) : rV s.size ((a : Int) + 2) 2 (nLe s ((a : Int) + 2) 2) = rdL (entAt s.data.toList k) 2 2 := by
  have e : ((a : Int) + 2) = ((a + 2 : Nat) : Int) := by omega
  have hl : (partB s (a + 2) 2).length = 2 := partB_length (by omega)
  have hv := valN_lt (partB s (a + 2) 2)
  rw [hl] at hv
  rw [e, rV_in (by unfold sizeBad; omega) (by unfold insideB; exact decide_eq_true (by omega))]
  unfold rdV nLe rdL
  rw [numL_valN]
  simp only [Int.toNat_natCast, show ((2 : Int).toNat) = 2 from rfl]
  rw [if_pos (by omega)]
  congr 2
  unfold partB entAt
  rw [List.drop_take, List.drop_drop, List.take_take, ha, show min 2 (32 - 2) = 2 by omega]
theorem ent_ext (s : ByteArray) (k a : Nat) (ha : a = 32 * k) : (s.extract a (a + 32)).data.toList = entAt s.data.toList k := by
  rw [extract_part, partB, ha]
  rfl
end Go.Proofs.Ytjlppndlgdgekaa
