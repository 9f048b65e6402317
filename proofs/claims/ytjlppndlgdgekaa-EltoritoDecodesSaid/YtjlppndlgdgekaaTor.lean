/-
  Chapter 27, in plain Lean: the bytes of a boot catalog, and what is read of one.
-/
import Derived.Test.YtjlppndlgdgekaaSpec
namespace Go.Proofs.Ytjlppndlgdgekaa

structure Img where
  plat : Int
  media : Int
  seg : Int
  sec : Int
  lba : Int
  boot : Bool
  deriving DecidableEq
def platB (n : Int) : Bool := decide (n = 0 ∨ n = 1 ∨ n = 2 ∨ n = 239)
def inB (n most : Int) : Bool := decide (0 ≤ n ∧ n ≤ most)
def imgOk (x : Img) : Bool := platB x.plat && (inB x.media 4 && (inB x.seg 65535 && (inB x.sec 65535 && inB x.lba 4294967295)))

/-- The sum of the 16-bit words. -/
def sumN : List UInt8 → Nat
  | a :: b :: r => a.toNat + 256 * b.toNat + sumN r
  | _ => 0
def sumS (l : List UInt8) : Int := ((sumN l % 65536 : Nat) : Int)
theorem sumN_step : ∀ (k : Nat) (l : List UInt8) (a b : UInt8), l[2 * k]? = some a → l[2 * k + 1]? = some b → sumN (l.take (2 * (k + 1))) = sumN (l.take (2 * k)) + (a.toNat + 256 * b.toNat)
  | 0, [], _, _, h, _ => by simp at h
  | 0, [x], _, _, _, h => by simp at h
  | 0, x :: y :: r, a, b, h1, h2 => by
    simp at h1 h2
    subst h1 h2
    simp [sumN]
  | k + 1, [], _, _, h, _ => by simp at h
  | k + 1, [x], a, b, h, _ => by simp [show 2 * (k + 1) = 2 * k + 1 + 1 by omega] at h
  | k + 1, x :: y :: r, a, b, h1, h2 => by
    rw [show 2 * (k + 1) = 2 * k + 1 + 1 by omega] at h1 h2
    simp only [List.getElem?_cons_succ] at h1 h2
    have ih := sumN_step k r a b h1 h2
    rw [show 2 * (k + 1 + 1) = 2 * (k + 1) + 1 + 1 by omega, show 2 * (k + 1) = 2 * k + 1 + 1 by omega]
    simp only [List.take_succ_cons, sumN]
    rw [show 2 * k + 1 + 1 = 2 * (k + 1) by omega, ih]
    omega
theorem sumN_end {l : List UInt8} {k : Nat} (h : l.length ≤ 2 * k + 1) : sumN (l.take (2 * k)) = sumN l := by
  rcases Nat.lt_or_ge l.length (2 * k + 1) with h1 | h1
  · rw [List.take_of_length_le (by omega)]
  · have hl : l.length = 2 * k + 1 := by omega
    clear h h1
    induction k generalizing l with
    | zero =>
      match l, hl with
      | [x], _ => rfl
    | succ k ih =>
      match l, hl with
      | x :: y :: r, hl =>
        rw [show 2 * (k + 1) = 2 * k + 1 + 1 by omega]
        simp only [List.take_succ_cons, sumN]
        rw [ih (by simp at hl; omega)]

def zs (n : Nat) : List UInt8 := List.replicate n 0
theorem zs_length (n : Nat) : (zs n).length = n := by simp [zs]
def nameL : List UInt8 := [77, 65, 83, 84, 69, 82, 68, 73, 83, 67]
def formL (plat sum : Int) : List UInt8 := [1] ++ leB plat 1 ++ [0, 0] ++ (nameL ++ zs 14) ++ leB sum 2 ++ [85, 170]
theorem formL_length (plat sum : Int) : (formL plat sum).length = 32 := by simp [formL, leB_length, zs_length, nameL]
def valSum (plat : Int) : Int := (65536 - sumS (formL plat 0)) % 65536
def valL (plat : Int) : List UInt8 := formL plat (valSum plat)
def firstB (b : Bool) : UInt8 := if b then 136 else 0
def imgP (x : Img) : List UInt8 := [firstB x.boot] ++ leB x.media 1 ++ leB x.seg 2 ++ [0, 0] ++ leB x.sec 2 ++ leB x.lba 4
theorem imgP_length (x : Img) : (imgP x).length = 12 := by simp [imgP, leB_length]
def imgL (x : Img) : List UInt8 := imgP x ++ zs 20
theorem imgL_length (x : Img) : (imgL x).length = 32 := by simp [imgL, imgP_length, zs_length]
def hdrP (kind plat : Int) : List UInt8 := leB kind 1 ++ leB plat 1 ++ leB 1 2
theorem hdrP_length (kind plat : Int) : (hdrP kind plat).length = 4 := by simp [hdrP, leB_length]
def hdrL (kind plat : Int) : List UInt8 := hdrP kind plat ++ zs 28
theorem hdrL_length (kind plat : Int) : (hdrL kind plat).length = 32 := by simp [hdrL, hdrP_length, zs_length]
def kindOf (n k : Nat) : Int := if k + 1 = n then 145 else 144
/-- What stands for image number k of n. -/
def partL (n k : Nat) (x : Img) : List UInt8 := (if k = 0 then valL x.plat else hdrL (kindOf n k) x.plat) ++ imgL x
theorem partL_length (n k : Nat) (x : Img) : (partL n k x).length = 64 := by
  unfold partL valL
  rw [List.length_append, imgL_length]
  split
  · rw [formL_length]
  · rw [hdrL_length]
/-- What stands for the first k images. -/
def bodyUp (l : List Img) : Nat → List UInt8
  | 0 => []
  | k + 1 => bodyUp l k ++ (match l[k]? with | some x => partL l.length k x | none => [])
theorem bodyUp_snoc {l : List Img} {k : Nat} {x : Img} (h : l[k]? = some x) : bodyUp l (k + 1) = bodyUp l k ++ partL l.length k x := by
  show bodyUp l k ++ _ = _
  rw [h]
theorem bodyUp_length {l : List Img} {k : Nat} (h : k ≤ l.length) : (bodyUp l k).length = 64 * k := by
  induction k with
  | zero => rfl
  | succ k ih =>
    rw [bodyUp_snoc (List.getElem?_eq_getElem (show k < l.length by omega)), List.length_append, ih (by omega), partL_length]
    omega
def encL (l : List Img) : List UInt8 := bodyUp l l.length ++ zs (2048 - 64 * l.length)
def encE (l : List Img) : Int := if l.length = 0 then 1 else if 32 < l.length then 7 else if l.all imgOk then 0 else 2
def encStr (l : List Img) : ByteArray := if encE l = 0 then ⟨(encL l).toArray⟩ else ⟨#[]⟩
theorem encE_cases (l : List Img) : (l.length = 0 ∧ encE l = 1) ∨ (32 < l.length ∧ encE l = 7) ∨ (0 < l.length ∧ l.length ≤ 32 ∧ l.all imgOk = false ∧ encE l = 2) ∨ (0 < l.length ∧ l.length ≤ 32 ∧ l.all imgOk = true ∧ encE l = 0) := by
  unfold encE
  by_cases h0 : l.length = 0
  · exact .inl ⟨h0, if_pos h0⟩
  · rw [if_neg h0]
    by_cases h1 : 32 < l.length
    · exact .inr (.inl ⟨h1, if_pos h1⟩)
    · rw [if_neg h1]
      cases h2 : l.all imgOk with
      | false => exact .inr (.inr (.inl ⟨by omega, by omega, rfl, rfl⟩))
      | true => exact .inr (.inr (.inr ⟨by omega, by omega, rfl, rfl⟩))
theorem encStr_no {l : List Img} (h : encE l ≠ 0) : encStr l = ⟨#[]⟩ := if_neg h
theorem encStr_ok {l : List Img} (h : encE l = 0) : encStr l = ⟨(encL l).toArray⟩ := if_pos h

/-- A little-endian number of an entry. -/
def numL : List UInt8 → Nat
  | [] => 0
  | b :: r => b.toNat + 256 * numL r
def rdL (x : List UInt8) (a z : Nat) : Int := ((numL ((x.drop a).take z) : Nat) : Int)
def byteL (x : List UInt8) (i : Nat) : Int := ((x[i]?.getD 0).toNat : Int)
def imgOf (plat : Int) (x : List UInt8) : Img := ⟨plat, byteL x 1, rdL x 2 2, rdL x 6 2, rdL x 8 4, byteL x 0 == 136⟩

structure DSt where
  plat : Int
  left : Int
  more : Bool
  heads : Int
  out : List Img
/-- One entry behind the validation entry: an answer, or the next state. -/
def stepD (st : DSt) (x : List UInt8) : (Int × List Img) ⊕ DSt :=
  if 0 < st.left then
    if byteL x 0 ≠ 136 ∧ byteL x 0 ≠ 0 then .inl (10, [])
    else if 4 < byteL x 1 then .inl (14, [])
    else .inr { st with left := st.left - 1, out := st.out ++ [imgOf st.plat x] }
  else if byteL x 0 = 0 ∧ st.heads = 0 then .inl (0, st.out)
  else if byteL x 0 ≠ 144 ∧ byteL x 0 ≠ 145 then .inl (10, [])
  else if platB (byteL x 1) then .inr { st with plat := byteL x 1, left := rdL x 2 2, more := byteL x 0 == 144, heads := st.heads + 1 }
  else .inl (14, [])
def endD (st : DSt) : Bool := st.left == 0 && !st.more
/-- Entry number i of a block. -/
def entAt (s : List UInt8) (i : Nat) : List UInt8 := (s.drop (32 * i)).take 32
/-- The entries from number i on; n of them are left. -/
def runD (s : List UInt8) : Nat → Nat → DSt → Int × List Img
  | 0, _, _ => (10, [])
  | n + 1, i, st => match stepD st (entAt s i) with
    | .inl r => r
    | .inr st' => if endD st' then (0, st'.out) else runD s n (i + 1) st'
def keyOk (x : List UInt8) : Bool := byteL x 0 == 1 && ((x.drop 30 == [85, 170]) && sumS x == 0)
def decR (s : List UInt8) : Int × List Img :=
  if s.length ≠ 2048 then (1, [])
  else if keyOk (entAt s 0) then (if platB (byteL (entAt s 0) 1) then runD s 63 1 ⟨byteL (entAt s 0) 1, 1, true, 0, []⟩ else (14, []))
  else (10, [])
end Go.Proofs.Ytjlppndlgdgekaa
