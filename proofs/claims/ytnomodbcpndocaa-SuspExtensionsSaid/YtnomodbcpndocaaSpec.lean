/-
  Chapter 1, in plain Lean: the bytes of numbers in both byte orders, numbers of bytes, decimals, and which arguments are refused.
-/
namespace Go.Proofs.Ytnomodbcpndocaa

/-- Byte i of a number. -/
def bt (n : Int) (i : Nat) : UInt8 := UInt8.ofNat (n.toNat / 256 ^ i)
def leB (n : Int) (size : Nat) : List UInt8 := (List.range size).map (bt n)
def beB (n : Int) (size : Nat) : List UInt8 := (List.range size).map fun j => bt n (size - 1 - j)

theorem leB_length (n : Int) (size : Nat) : (leB n size).length = size := by simp [leB]
theorem beB_length (n : Int) (size : Nat) : (beB n size).length = size := by simp [beB]
theorem beB_eq (n : Int) (size : Nat) : beB n size = (leB n size).reverse := by
  apply List.ext_getElem
  · simp [leB, beB]
  · intro i h1 h2
    simp [leB, beB]

/-- The number n is in the range of a size. -/
def fitsB (n : Int) (size : Nat) : Bool := decide (0 ≤ n) && decide (n < 256 ^ size)

end Go.Proofs.Ytnomodbcpndocaa
