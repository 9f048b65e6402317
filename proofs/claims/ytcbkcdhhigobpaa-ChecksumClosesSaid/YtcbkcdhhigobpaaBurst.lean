/-
  The plain law behind ChecksumBursts: the register of the EDC loses no change within four bytes, that of the CRC none within two.
-/
import Derived.Test.YtcbkcdhhigobpaaLaw3
namespace Go.Proofs.Ytcbkcdhhigobpaa

theorem xor_zero_iff {a b : Nat} (h : a ^^^ b = 0) : a = b := by
  have : (a ^^^ b) ^^^ b = b := by rw [h, Nat.zero_xor]
  rw [Nat.xor_assoc, Nat.xor_self, Nat.xor_zero] at this
  exact this
theorem e1_ne {x : Nat} (hx : x < 4294967296) (h : x ≠ 0) : e1 x ≠ 0 := by
  unfold e1
  split
  · intro h0
    have := xor_zero_iff h0
    unfold edcP at this
    omega
  · omega
theorem eN_ne {x : Nat} (hx : x < 4294967296) (h : x ≠ 0) (k : Nat) : eN k x ≠ 0 := by
  induction k with
  | zero => exact h
  | succ k ih => exact e1_ne (eN_lt hx k) ih
theorem c1_ne {x : Nat} (hx : x < 65536) (h : x ≠ 0) : c1 x ≠ 0 := by
  unfold c1
  split
  · intro h0
    have := xor_zero_iff h0
    unfold crcP at this
    omega
  · omega
theorem cN_ne {x : Nat} (hx : x < 65536) (h : x ≠ 0) (k : Nat) : cN k x ≠ 0 := by
  induction k with
  | zero => exact h
  | succ k ih => exact c1_ne (cN_lt hx k) ih
theorem eN_zero (k : Nat) : eN k 0 = 0 := by
  induction k with
  | zero => rfl
  | succ k ih => rw [eN, ih]; rfl
theorem cN_zero (k : Nat) : cN k 0 = 0 := by
  induction k with
  | zero => rfl
  | succ k ih => rw [cN, ih]; rfl
theorem eN_add (j k n : Nat) : eN (j + k) n = eN j (eN k n) := by
  induction j with
  | zero => rw [Nat.zero_add]; rfl
  | succ j ih => rw [Nat.succ_add, eN, ih, eN]

theorem xor_add (a r : Nat) (h : a < 256) : a ^^^ 256 * r = a + 256 * r := by
  have := split_xor 8 (a + 256 * r)
  rw [show (2 : Nat) ^ 8 = 256 from rfl, show (a + 256 * r) / 256 = r by omega, show (a + 256 * r) % 256 = a by omega] at this
  rw [Nat.xor_comm, ← this]
theorem eN_byte (d r : Nat) : eN 8 (d ^^^ 256 * r) = eN 8 d ^^^ r := by rw [eN_xor, eN_shift]
/-- Four bytes from the register 0 on are 32 steps of the number that they make. -/
theorem edc4 (d0 d1 d2 d3 : Nat) : eN 8 (eN 8 (eN 8 (eN 8 d0 ^^^ d1) ^^^ d2) ^^^ d3) = eN 32 (d0 ^^^ 256 * (d1 ^^^ 256 * (d2 ^^^ 256 * d3))) := by
  rw [show 32 = 8 + (8 + (8 + 8)) from rfl, eN_add, eN_add, eN_add, eN_byte, ← Nat.xor_assoc, eN_byte, ← Nat.xor_assoc, eN_byte]
theorem edcL_zeros (c m : Nat) : edcL c (List.replicate m 0) = eN (8 * m) c := by
  induction m generalizing c with
  | zero => rfl
  | succ m ih =>
    show edcL (eB c 0) (List.replicate m 0) = _
    rw [ih, eB, Nat.xor_zero, ← eN_add]
    rfl
theorem crcL_zeros (c m : Nat) : crcL c (List.replicate m 0) = cN (8 * m) c := by
  have hadd : ∀ j k n, cN (j + k) n = cN j (cN k n) := by
    intro j k n
    induction j with
    | zero => rw [Nat.zero_add]; rfl
    | succ j ih => rw [Nat.succ_add, cN, ih, cN]
  induction m generalizing c with
  | zero => rfl
  | succ m ih =>
    show crcL (cB c 0) (List.replicate m 0) = _
    rw [ih, cB, Nat.zero_mul, Nat.xor_zero, ← hadd]
    rfl

/-! A burst. -/
theorem xorL_self (s : List UInt8) : xorL s s = List.replicate s.length 0 := by
  induction s with
  | nil => rfl
  | cons x t ih =>
    show (x ^^^ x) :: xorL t t = _
    rw [ih, UInt8.xor_self]
    rfl
theorem edcL_inj (s : List UInt8) {c d : Nat} (hc : c < 4294967296) (hd : d < 4294967296) (h : edcL c s = edcL d s) : c = d := by
  have h1 := edcL_xor s s rfl c d
  rw [h, Nat.xor_self, xorL_self, edcL_zeros] at h1
  have hlt : c ^^^ d < 4294967296 := xor_lt (k := 32) (by omega) (by omega)
  by_cases h0 : c ^^^ d = 0
  · exact xor_zero_iff h0
  · exact absurd h1 (eN_ne hlt h0 _)
theorem crcL_inj (s : List UInt8) {c d : Nat} (hc : c < 65536) (hd : d < 65536) (h : crcL c s = crcL d s) : c = d := by
  have h1 := crcL_xor s s rfl c d hc hd
  rw [h, Nat.xor_self, xorL_self, crcL_zeros] at h1
  have hlt : c ^^^ d < 65536 := xor_lt (k := 16) (by omega) (by omega)
  by_cases h0 : c ^^^ d = 0
  · exact xor_zero_iff h0
  · exact absurd h1 (cN_ne hlt h0 _)
/-- The i-th byte of a number. -/
def byteOf (c i : Nat) : UInt8 := UInt8.ofNat (c / 256 ^ i)
theorem byteOf_nat (c i : Nat) : (byteOf c i).toNat = c / 256 ^ i % 256 := by simp [byteOf]
theorem edc_burst (p s : List UInt8) (b0 b1 b2 b3 : UInt8) (c : Nat) (hc : c < 4294967296) (h0 : c ≠ 0) :
    edcL 0 (p ++ [b0 ^^^ byteOf c 0, b1 ^^^ byteOf c 1, b2 ^^^ byteOf c 2, b3 ^^^ byteOf c 3] ++ s) ≠ edcL 0 (p ++ [b0, b1, b2, b3] ++ s) := by
  intro h
  have hp : edcL 0 p < 4294967296 := edcL_lt p (by omega)
  rw [edcL_append, edcL_append (0 : Nat) (p ++ [b0, b1, b2, b3]) s, edcL_append, edcL_append] at h
  have h1 := edcL_inj s (edcL_lt _ hp) (edcL_lt _ hp) h
  have h2 := edcL_xor [b0, b1, b2, b3] [byteOf c 0, byteOf c 1, byteOf c 2, byteOf c 3] rfl (edcL 0 p) 0
  rw [Nat.xor_zero] at h2
  have h3 : edcL (edcL 0 p) [b0, b1, b2, b3] ^^^ edcL 0 [byteOf c 0, byteOf c 1, byteOf c 2, byteOf c 3] = edcL (edcL 0 p) [b0, b1, b2, b3] := h2.symm.trans h1
  have h4 : edcL 0 [byteOf c 0, byteOf c 1, byteOf c 2, byteOf c 3] = 0 := by
    have := congrArg (fun t => edcL (edcL 0 p) [b0, b1, b2, b3] ^^^ t) h3
    simpa [← Nat.xor_assoc] using this
  have h5 : edcL 0 [byteOf c 0, byteOf c 1, byteOf c 2, byteOf c 3] = eN 32 c := by
    show eN 8 (eN 8 (eN 8 (eN 8 (0 ^^^ (byteOf c 0).toNat) ^^^ (byteOf c 1).toNat) ^^^ (byteOf c 2).toNat) ^^^ (byteOf c 3).toNat) = _
    rw [Nat.zero_xor, edc4, byteOf_nat, byteOf_nat, byteOf_nat, byteOf_nat, xor_add _ _ (Nat.mod_lt _ (by omega)), xor_add _ _ (Nat.mod_lt _ (by omega)), xor_add _ _ (Nat.mod_lt _ (by omega))]
    congr 1
    omega
  rw [h5] at h4
  exact eN_ne hc h0 32 h4
theorem crc_two (d0 d1 : UInt8) : crcL 0 [d0, d1] = cN 16 (d0.toNat * 256 ^^^ d1.toNat) := by
  have hadd : ∀ j k n, cN (j + k) n = cN j (cN k n) := by
    intro j k n
    induction j with
    | zero => rw [Nat.zero_add]; rfl
    | succ j ih => rw [Nat.succ_add, cN, ih, cN]
  have h0 := d0.toNat_lt
  have h1 := d1.toNat_lt
  show cN 8 (cN 8 (0 ^^^ d0.toNat * 256) ^^^ d1.toNat * 256) = _
  rw [Nat.zero_xor, ← cN_shift (m := d1.toNat) (by omega), ← cN_xor 8 (by omega) (by omega), ← hadd]
theorem crc_burst (p s : List UInt8) (b0 b1 : UInt8) (c : Nat) :
    crcL 0 (p ++ [b0 ^^^ byteOf c 0, b1 ^^^ byteOf c 1] ++ s) = crcL 0 (p ++ [b0, b1] ++ s) ↔ c % 65536 = 0 := by
  have hp : crcL 0 p < 65536 := crcL_lt p (by omega)
  have h2 := crcL_xor [b0, b1] [byteOf c 0, byteOf c 1] rfl (crcL 0 p) 0 hp (by omega)
  rw [Nat.xor_zero] at h2
  have h2' : crcL (crcL 0 p) [b0 ^^^ byteOf c 0, b1 ^^^ byteOf c 1] = crcL (crcL 0 p) [b0, b1] ^^^ crcL 0 [byteOf c 0, byteOf c 1] := h2
  have hx : (byteOf c 0).toNat * 256 ^^^ (byteOf c 1).toNat = (byteOf c 0).toNat * 256 + (byteOf c 1).toNat := by
    rw [Nat.xor_comm, Nat.mul_comm, xor_add _ _ (byteOf c 1).toNat_lt, Nat.add_comm]
  have hb0 := (byteOf c 0).toNat_lt
  have hb1 := (byteOf c 1).toNat_lt
  rw [crcL_append, crcL_append (0 : Nat) (p ++ [b0, b1]) s, crcL_append, crcL_append]
  constructor
  · intro h
    have h1 := crcL_inj s (crcL_lt _ hp) (crcL_lt _ hp) h
    rw [h2'] at h1
    have h4 : crcL 0 [byteOf c 0, byteOf c 1] = 0 := by
      have := congrArg (fun t => crcL (crcL 0 p) [b0, b1] ^^^ t) h1
      simpa [← Nat.xor_assoc] using this
    rw [crc_two, hx] at h4
    by_cases hz : (byteOf c 0).toNat * 256 + (byteOf c 1).toNat = 0
    · have e0 := byteOf_nat c 0
      have e1 := byteOf_nat c 1
      omega
    · exact absurd h4 (cN_ne (by omega) hz 16)
  · intro h
    have e0 := byteOf_nat c 0
    have e1 := byteOf_nat c 1
    have hz : (byteOf c 0).toNat * 256 + (byteOf c 1).toNat = 0 := by omega
    rw [h2', crc_two, hx, hz, cN_zero, Nat.xor_zero]
end Go.Proofs.Ytcbkcdhhigobpaa
