/-
  An argument of type api.Sector, opened to its cells.
-/
import Derived.Test.YtdjpnabkmanboaaRMake2
import Derived.OpenShut
import Derived.ChangeOld
namespace Go.Proofs.Ytdjpnabkmanboaa
open Go.ChangeShapes Go.WideShapes Go.ChangeAt Go.RowKit
set_option linter.unusedVariables false

/-- Each number of a sector is an int, its data are no longer than a string may be. -/
structure SecIn (x : Sec) : Prop where
  lba : -9223372036854775808 ≤ x.lba ∧ x.lba ≤ 9223372036854775807
  mode : -9223372036854775808 ≤ x.mode ∧ x.mode ≤ 9223372036854775807
  data : x.data.size ≤ maxLen

theorem wf64 {n : Int} (h : (Lit.int IntKind.i64 n).wf = true) : -9223372036854775808 ≤ n ∧ n ≤ 9223372036854775807 := by
  have := wf_i64 h
  omega

section
variable {H : Type} {enc : TypeId × Value → H} {w : World} {base : Nat} {spare : Nat → Bool} {held : Bool}
set_option maxRecDepth 100000 in
theorem open_sector {r : Reach} {b0 : Nat} {v : Value} {d : DataW H} {p : List MemPlace} (hv : Value.okWide Try.prog w r b0 25 v) (h : DataW.Trod enc Try.prog w base spare held 25 v d p) :
    ∃ x : Sec, v = secV x ∧ SecIn x := by
  have c25 : Try.prog.cellsOf 25 = 7 := by kernel_rfl
  have c23 : Try.prog.cellsOf 23 = 4 := by kernel_rfl
  have c3 : Try.prog.cellsOf 3 = 1 := by kernel_rfl
  have c9 : Try.prog.cellsOf 9 = 1 := by kernel_rfl
  obtain ⟨cs, rfl, hsz⟩ := okWide_struct Try.underlying25 hv
  obtain ⟨l⟩ := cs
  have hl := hsz.trans c25
  clear hsz
  match l, hl with
  | [a0, a1, a2, a3, a4, a5, a6], _ =>
    obtain ⟨fuel, hf⟩ := h
    obtain ⟨xs, n, _, hx, _, hlen, hg⟩ := DataW.trod_struct Try.underlying25 hf
    match xs, hlen with
    | [y0, y1, y2, y3], _ =>
      have g0 := hg 0 _ rfl
      have g1 := hg 1 _ rfl
      have g2 := hg 2 _ rfl
      have g3 := hg 3 _ rfl
      simp [Value.cells, c23, c3, c9] at g0 g1 g2 g3
      obtain ⟨n0, e0, _, k0⟩ := DataW.trod_int Try.underlying3 g0
      obtain ⟨n1, e1, _, k1⟩ := DataW.trod_int Try.underlying3 g1
      obtain ⟨s, e6, _, k6⟩ := DataW.trod_string Try.underlying9 g3
      obtain ⟨zs, m, _, hz, _, hlen2, hh⟩ := DataW.trod_struct Try.underlying23 g2
      match zs, hlen2 with
      | [z0, z1, z2, z3], _ =>
        have j0 := hh 0 _ rfl
        have j1 := hh 1 _ rfl
        have j2 := hh 2 _ rfl
        have j3 := hh 3 _ rfl
        simp [c3] at j0 j1 j2 j3
        obtain ⟨n2, e2, _, k2⟩ := DataW.trod_int Try.underlying3 j0
        obtain ⟨n3, e3, _, k3⟩ := DataW.trod_int Try.underlying3 j1
        obtain ⟨n4, e4, _, k4⟩ := DataW.trod_int Try.underlying3 j2
        obtain ⟨n5, e5, _, k5⟩ := DataW.trod_int Try.underlying3 j3
        simp at e0 e1 e2 e3 e4 e5 e6
        subst e0 e1 e2 e3 e4 e5 e6
        exact ⟨⟨n0, n1, n2, n3, n4, n5, s⟩, rfl, ⟨wf64 k0, wf64 k1, k6⟩⟩
end
end Go.Proofs.Ytdjpnabkmanboaa
