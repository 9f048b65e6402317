/-
  TopReadPath's walk joined.
-/
import Derived.Test.YtlnjphggfbiabaaGreatMVg
import Derived.Test.YtlnjphggfbiabaaGreatMOps
namespace Go.Proofs.YtlnjphggfbiabaaGreat
open Go.ChangeShapes Go.WideShapes Go.ChangeAt Go.RowKit Go.Deep
set_option linter.unusedVariables false

theorem read_law (A : Option Addr) (len cap : Nat) (ds : List ByteArray) (B : Option Addr) (len1 cap1 : Nat) (l : List (Int × Int)) (w : World) (i0 : IsL (fun s => [Value.string s]) (fun s => s.size ≤ maxLen) w A len cap ds) (i1 : IsL encI ScrG w B len1 cap1 l) :
    Calls Tryz.prog 4 #[.slice A len cap, .slice B len1 cap1] w fun e w' => e = .returned (.bool true) ∧ Below w.heap.size w w' := by
  obtain ⟨h1, h2, h3, h4, _⟩ := i0.strs
  obtain ⟨g1, g2, g3, g4, g5⟩ := i1
  subst h1 g1
  by_cases hno : ds.length = 0 ∨ 2 < ds.length ∨ 8 < l.length ∨ ds.all blkOk = false
  · exact read_no A B cap cap1 ds l w h4 (by omega) (by omega) hno
  · have n1 : ¬ ds.length = 0 := fun h => hno (.inl h)
    have n2 : ¬ 2 < ds.length := fun h => hno (.inr (.inl h))
    have n3 : ¬ 8 < l.length := fun h => hno (.inr (.inr (.inl h)))
    have n4 : ds.all blkOk = true := by
      cases h : ds.all blkOk with
      | true => rfl
      | false => exact absurd (.inr (.inr (.inr h))) hno
    exact read_go A B cap cap1 ds l w h4 g4 (by omega) (by omega) (by omega) n4 (fun p hp => g5 p hp)
end Go.Proofs.YtlnjphggfbiabaaGreat
