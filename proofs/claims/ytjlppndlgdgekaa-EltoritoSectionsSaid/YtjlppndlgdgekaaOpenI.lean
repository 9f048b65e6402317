/-
  An argument of type []api.BootImage, opened to the list of its images.
-/
import Derived.Test.YtjlppndlgdgekaaPart2
import Derived.Test.YtjlppndlgdgekaaOpenL
namespace Go.Proofs.Ytjlppndlgdgekaa
open Go.ChangeShapes Go.WideShapes Go.ChangeAt Go.RowKit
set_option linter.unusedVariables false

instance : Inhabited Img := ⟨⟨0, 0, 0, 0, 0, false⟩⟩
def ImgG (x : Img) : Prop := True
section
variable {H : Type} {enc : TypeId × Value → H} {w : World} {base : Nat} {spare : Nat → Bool} {held : Bool}
set_option maxRecDepth 100000 in
theorem open_img {n : Nat} {cs : List Value} {y : DataW H × List MemPlace} (hl : cs.length = 6) (h : DataW.trod enc Try.prog w base spare held n 34 cs = some y) : ∃ x, cs = encI x ∧ ImgG x := by
  have c3 : Try.prog.cellsOf 3 = 1 := by kernel_rfl
  have c4 : Try.prog.cellsOf 4 = 1 := by kernel_rfl
  match cs, hl with
  | [a0, a1, a2, a3, a4, a5], _ =>
    obtain ⟨xs, n, _, hx, _, hlen, hg⟩ := DataW.trod_struct Try.underlying34 h
    match xs, hlen with
    | [y0, y1, y2, y3, y4, y5], _ =>
      have g0 := hg 0 _ rfl
      have g1 := hg 1 _ rfl
      have g2 := hg 2 _ rfl
      have g3 := hg 3 _ rfl
      have g4 := hg 4 _ rfl
      have g5 := hg 5 _ rfl
      simp [c3, c4] at g0 g1 g2 g3 g4 g5
      obtain ⟨n0, e0, _, k0⟩ := DataW.trod_int Try.underlying3 g0
      obtain ⟨n1, e1, _, k1⟩ := DataW.trod_int Try.underlying3 g1
      obtain ⟨n2, e2, _, k2⟩ := DataW.trod_int Try.underlying3 g2
      obtain ⟨n3, e3, _, k3⟩ := DataW.trod_int Try.underlying3 g3
      obtain ⟨n4, e4, _, k4⟩ := DataW.trod_int Try.underlying3 g4
      obtain ⟨n5, e5, _⟩ := DataW.trod_bool Try.underlying4 g5
      simp at e0 e1 e2 e3 e4 e5
      subst e0 e1 e2 e3 e4 e5
      exact ⟨⟨n0, n1, n2, n3, n4, n5⟩, rfl, trivial⟩
theorem open_imgs {fuel : Nat} {y : DataW H × List MemPlace} {a : Option Addr} {len cap : Nat} (h : DataW.trod enc Try.prog w base spare held fuel 22 [.slice a len cap] = some y) : ∃ xs, IsL encI ImgG w a len cap xs :=
  open_list (α := Img) (encA := encI) (Good := ImgG) (k := 6) encI_length (by decide) Try.underlying22 (by kernel_rfl) (fun n cs y hl hy => open_img hl hy) h
end
end Go.Proofs.Ytjlppndlgdgekaa
