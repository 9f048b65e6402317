/-
  The medium laws' arguments opened; TopLinking's walk joined.
-/
import Derived.Test.YtlnjphggfbiabaaGreatMVb
import Derived.Test.YtlnjphggfbiabaaGreatOpenL
namespace Go.Proofs.YtlnjphggfbiabaaGreat
open Go.ChangeShapes Go.WideShapes Go.ChangeAt Go.RowKit Go.Deep
set_option linter.unusedVariables false

def I64In (x : Int) : Prop := -9223372036854775808 ≤ x ∧ x ≤ 9223372036854775807
theorem scr_in {n : Int} (h : (Lit.int .i64 n).wf = true) : I64In n := by
  have := wf_i64 h
  unfold I64In
  omega
def ScrG (p : Int × Int) : Prop := I64In p.1 ∧ I64In p.2
section
variable {H : Type} {enc : TypeId × Value → H} {w : World} {base : Nat} {spare : Nat → Bool} {held : Bool}
set_option maxRecDepth 100000 in
theorem open_scr {n : Nat} {cs : List Value} {y : DataW H × List MemPlace} (hl : cs.length = 2) (h : DataW.trod enc Tryz.prog w base spare held n 28 cs = some y) : ∃ x, cs = encI x ∧ ScrG x := by
  have c3 : Tryz.prog.cellsOf 3 = 1 := by kernel_rfl
  match cs, hl with
  | [a0, a1], _ =>
    obtain ⟨xs, n, _, hx, _, hlen, hg⟩ := DataW.trod_struct Tryz.underlying28 h
    match xs, hlen with
    | [y0, y1], _ =>
      have g0 := hg 0 _ rfl
      have g1 := hg 1 _ rfl
      simp [c3] at g0 g1
      obtain ⟨n0, e0, _, k0⟩ := DataW.trod_int Tryz.underlying3 g0
      obtain ⟨n1, e1, _, k1⟩ := DataW.trod_int Tryz.underlying3 g1
      simp at e0 e1
      subst e0 e1
      exact ⟨(n0, n1), rfl, scr_in k0, scr_in k1⟩
theorem open_scrs {fuel : Nat} {y : DataW H × List MemPlace} {a : Option Addr} {len cap : Nat} (h : DataW.trod enc Tryz.prog w base spare held fuel 22 [.slice a len cap] = some y) : ∃ xs, IsL encI ScrG w a len cap xs :=
  open_list (α := Int × Int) (encA := encI) (Good := ScrG) (k := 2) encI_length (by decide) Tryz.underlying22 (by kernel_rfl) (fun n cs y hl hy => open_scr hl hy) h
end
theorem linking_law (s x : Int) (A : Option Addr) (len cap : Nat) (zs : List (Int × Int)) (w : World) (i0 : (Lit.int .u8 s).wf = true) (i1 : (Lit.int .u8 x).wf = true) (i2 : IsL encI ScrG w A len cap zs) :
    Calls Tryz.prog 3 #[.int .u8 s, .int .u8 x, .slice A len cap] w fun e w' => e = .returned (.bool true) ∧ Below w.heap.size w w' := by
  obtain ⟨hs0, hs1⟩ := wf_u8 i0
  obtain ⟨hx0, hx1⟩ := wf_u8 i1
  obtain ⟨h1, h2, h3, h4, h5⟩ := i2
  subst h1
  obtain ⟨a, rfl⟩ : ∃ a : Nat, s = (a : Int) := ⟨s.toNat, by omega⟩
  obtain ⟨b, rfl⟩ : ∃ b : Nat, x = (b : Int) := ⟨x.toNat, by omega⟩
  exact linking_walk coded_ok a b (by omega) (by omega) A cap zs w h4 (by omega)
end Go.Proofs.YtlnjphggfbiabaaGreat
