/-
  The plain law of the EDC: no change within four bytes is lost (out of chapter 2's texts).
-/
import Derived.Test.YtdjpnabkmanboaaCrcSpec
namespace Go.Proofs.Ytdjpnabkmanboaa

def xorL (l r : List UInt8) : List UInt8 := l.zipWith (· ^^^ ·) r
theorem xor_swap (a b c d : Nat) : (a ^^^ b) ^^^ (c ^^^ d) = (a ^^^ c) ^^^ (b ^^^ d) := by
  rw [Nat.xor_assoc, Nat.xor_assoc, ← Nat.xor_assoc b c d, Nat.xor_comm b c, Nat.xor_assoc c b d]
theorem edcL_xor (l r : List UInt8) (h : l.length = r.length) (c d : Nat) : edcL (c ^^^ d) (xorL l r) = edcL c l ^^^ edcL d r := by
  induction l generalizing r c d with
  | nil => cases r with
    | nil => rfl
    | cons => simp at h
  | cons x t ih => cases r with
    | nil => simp at h
    | cons y u =>
      show edcL (eB (c ^^^ d) (x ^^^ y).toNat) (xorL t u) = edcL (eB c x.toNat) t ^^^ edcL (eB d y.toNat) u
      rw [← ih u (by simpa using h)]
      congr 1
      unfold eB
      rw [UInt8.toNat_xor, xor_swap, eN_xor]
theorem xor_zero_iff {a b : Nat} (h : a ^^^ b = 0) : a = b := by
  have : (a ^^^ b) ^^^ b = b := by rw [h, Nat.zero_xor]
  rw [Nat.xor_assoc, Nat.xor_self, Nat.xor_zero] at this
  exact this
theorem e1_ne {x : Nat} (hx : x < 4294967296) (h : x ≠ 0) : e1 x ≠ 0 := by
  unfold e1
  split
  · intro h0
    have := xor_zero_iff h0
    unfold edcP at this
    omega
  · omega
theorem eN_ne {x : Nat} (hx : x < 4294967296) (h : x ≠ 0) (k : Nat) : eN k x ≠ 0 := by
  induction k with
  | zero => exact h
  | succ k ih => exact e1_ne (eN_lt hx k) ih
theorem eN_zero (k : Nat) : eN k 0 = 0 := by
  induction k with
  | zero => rfl
  | succ k ih => rw [eN, ih]; rfl
theorem eN_add (j k n : Nat) : eN (j + k) n = eN j (eN k n) := by
  induction j with
  | zero => rw [Nat.zero_add]; rfl
  | succ j ih => rw [Nat.succ_add, eN, ih, eN]

theorem xor_add (a r : Nat) (h : a < 256) : a ^^^ 256 * r = a + 256 * r := by
  have := split_xor 8 (a + 256 * r)
  rw [show (2 : Nat) ^ 8 = 256 from rfl, show (a + 256 * r) / 256 = r by omega, show (a + 256 * r) % 256 = a by omega] at this
  rw [Nat.xor_comm, ← this]
theorem eN_byte (d r : Nat) : eN 8 (d ^^^ 256 * r) = eN 8 d ^^^ r := by rw [eN_xor, eN_shift]
/-- Four bytes from the register 0 on are 32 steps of the number that they make. -/
theorem edc4 (d0 d1 d2 d3 : Nat) : eN 8 (eN 8 (eN 8 (eN 8 d0 ^^^ d1) ^^^ d2) ^^^ d3) = eN 32 (d0 ^^^ 256 * (d1 ^^^ 256 * (d2 ^^^ 256 * d3))) := by
  rw [show 32 = 8 + (8 + (8 + 8)) from rfl, eN_add, eN_add, eN_add, eN_byte, ← Nat.xor_assoc, eN_byte, ← Nat.xor_assoc, eN_byte]
theorem edcL_zeros (c m : Nat) : edcL c (List.replicate m 0) = eN (8 * m) c := by
  induction m generalizing c with
  | zero => rfl
  | succ m ih =>
    show edcL (eB c 0) (List.replicate m 0) = _
    rw [ih, eB, Nat.xor_zero, ← eN_add]
    rfl
theorem xorL_self (s : List UInt8) : xorL s s = List.replicate s.length 0 := by
  induction s with
  | nil => rfl
  | cons x t ih =>
    show (x ^^^ x) :: xorL t t = _
    rw [ih, UInt8.xor_self]
    rfl
theorem edcL_inj (s : List UInt8) {c d : Nat} (hc : c < 4294967296) (hd : d < 4294967296) (h : edcL c s = edcL d s) : c = d := by
  have h1 := edcL_xor s s rfl c d
  rw [h, Nat.xor_self, xorL_self, edcL_zeros] at h1
  have hlt : c ^^^ d < 4294967296 := xor_lt (k := 32) (by omega) (by omega)
  by_cases h0 : c ^^^ d = 0
  · exact xor_zero_iff h0
  · exact absurd h1 (eN_ne hlt h0 _)
/-- The i-th byte of a number. -/
def byteOf (c i : Nat) : UInt8 := UInt8.ofNat (c / 256 ^ i)
theorem byteOf_nat (c i : Nat) : (byteOf c i).toNat = c / 256 ^ i % 256 := by simp [byteOf]
theorem edc_burst (p s : List UInt8) (b0 b1 b2 b3 : UInt8) (c : Nat) (hc : c < 4294967296) (h0 : c ≠ 0) :
    edcL 0 (p ++ [b0 ^^^ byteOf c 0, b1 ^^^ byteOf c 1, b2 ^^^ byteOf c 2, b3 ^^^ byteOf c 3] ++ s) ≠ edcL 0 (p ++ [b0, b1, b2, b3] ++ s) := by
  intro h
  have hp : edcL 0 p < 4294967296 := edcL_lt p (by omega)
  rw [edcL_append, edcL_append (0 : Nat) (p ++ [b0, b1, b2, b3]) s, edcL_append, edcL_append] at h
  have h1 := edcL_inj s (edcL_lt _ hp) (edcL_lt _ hp) h
  have h2 := edcL_xor [b0, b1, b2, b3] [byteOf c 0, byteOf c 1, byteOf c 2, byteOf c 3] rfl (edcL 0 p) 0
  rw [Nat.xor_zero] at h2
  have h3 : edcL (edcL 0 p) [b0, b1, b2, b3] ^^^ edcL 0 [byteOf c 0, byteOf c 1, byteOf c 2, byteOf c 3] = edcL (edcL 0 p) [b0, b1, b2, b3] := h2.symm.trans h1
  have h4 : edcL 0 [byteOf c 0, byteOf c 1, byteOf c 2, byteOf c 3] = 0 := by
    have := congrArg (fun t => edcL (edcL 0 p) [b0, b1, b2, b3] ^^^ t) h3
    simpa [← Nat.xor_assoc] using this
  have h5 : edcL 0 [byteOf c 0, byteOf c 1, byteOf c 2, byteOf c 3] = eN 32 c := by
    show eN 8 (eN 8 (eN 8 (eN 8 (0 ^^^ (byteOf c 0).toNat) ^^^ (byteOf c 1).toNat) ^^^ (byteOf c 2).toNat) ^^^ (byteOf c 3).toNat) = _
    rw [Nat.zero_xor, edc4, byteOf_nat, byteOf_nat, byteOf_nat, byteOf_nat, xor_add _ _ (Nat.mod_lt _ (by omega)), xor_add _ _ (Nat.mod_lt _ (by omega)), xor_add _ _ (Nat.mod_lt _ (by omega))]
    congr 1
    omega
  rw [h5] at h4
  exact eN_ne hc h0 32 h4
/-- The list with the first i bytes of the change put in at k. -/
def burst (l : List UInt8) (k c : Nat) : Nat → List UInt8
  | 0 => l
  | i + 1 => (burst l k c i).set (k + i) ((l[k + i]?.getD 0) ^^^ byteOf c i)
theorem burst_length (l : List UInt8) (k c i : Nat) : (burst l k c i).length = l.length := by
  induction i with
  | zero => rfl
  | succ i ih => rw [burst, List.length_set, ih]
theorem burst_get (l : List UInt8) (k c i j : Nat) (h : k + i ≤ j) : (burst l k c i)[j]? = l[j]? := by
  induction i with
  | zero => rfl
  | succ i ih => rw [burst, List.getElem?_set_ne (by omega), ih (by omega)]
theorem split4 (l : List UInt8) (k : Nat) (h : k + 4 ≤ l.length) : ∃ p s b0 b1 b2 b3, p.length = k ∧ l = p ++ [b0, b1, b2, b3] ++ s := by
  refine ⟨l.take k, l.drop (k + 4), l[k], l[k + 1], l[k + 2], l[k + 3], by simp; omega, ?_⟩
  conv => lhs; rw [← List.take_append_drop k l]
  rw [List.drop_eq_getElem_cons (by omega), List.drop_eq_getElem_cons (by omega), List.drop_eq_getElem_cons (by omega), List.drop_eq_getElem_cons (by omega)]
  simp
theorem burst_four (p s : List UInt8) (b0 b1 b2 b3 : UInt8) (c : Nat) : burst (p ++ [b0, b1, b2, b3] ++ s) p.length c 4 = p ++ [b0 ^^^ byteOf c 0, b1 ^^^ byteOf c 1, b2 ^^^ byteOf c 2, b3 ^^^ byteOf c 3] ++ s := by
  simp [burst]
theorem burst_edc (l : List UInt8) (k c : Nat) (h : k + 4 ≤ l.length) (hc : c < 4294967296) (h0 : c ≠ 0) : edcL 0 (burst l k c 4) ≠ edcL 0 l := by
  obtain ⟨p, s, b0, b1, b2, b3, rfl, rfl⟩ := split4 l k h
  rw [burst_four]
  exact edc_burst p s b0 b1 b2 b3 c hc h0
end Go.Proofs.Ytdjpnabkmanboaa
