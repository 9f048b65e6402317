/-
  An argument of type []api.Sector, opened to the list of its sectors.
-/
import Derived.Test.YticmopgpfplbnaaRCol
import Derived.Test.YticmopgpfplbnaaOpenL
namespace Go.Proofs.Yticmopgpfplbnaa
open Go.ChangeShapes Go.WideShapes Go.ChangeAt Go.RowKit
set_option linter.unusedVariables false

instance : Inhabited Sec := ⟨⟨0, 0, 0, 0, 0, 0, ByteArray.empty⟩⟩
def SecG (x : Sec) : Prop := -9223372036854775808 ≤ x.lba ∧ x.lba ≤ 9223372036854775807 ∧ x.data.size ≤ maxLen
theorem wf64 {n : Int} (h : (Lit.int IntKind.i64 n).wf = true) : -9223372036854775808 ≤ n ∧ n ≤ 9223372036854775807 := by
  have := wf_i64 h
  omega
section
variable {H : Type} {enc : TypeId × Value → H} {w : World} {base : Nat} {spare : Nat → Bool} {held : Bool}
set_option maxRecDepth 100000 in
theorem open_sec {n : Nat} {cs : List Value} {y : DataW H × List MemPlace} (hl : cs.length = 7) (h : DataW.trod enc Try.prog w base spare held n 53 cs = some y) : ∃ x, cs = encS x ∧ SecG x := by
  have c23 : Try.prog.cellsOf 51 = 4 := by kernel_rfl
  have c3 : Try.prog.cellsOf 3 = 1 := by kernel_rfl
  have c9 : Try.prog.cellsOf 9 = 1 := by kernel_rfl
  match cs, hl with
  | [a0, a1, a2, a3, a4, a5, a6], _ =>
    obtain ⟨xs, n, _, hx, _, hlen, hg⟩ := DataW.trod_struct Try.underlying53 h
    match xs, hlen with
    | [y0, y1, y2, y3], _ =>
      have g0 := hg 0 _ rfl
      have g1 := hg 1 _ rfl
      have g2 := hg 2 _ rfl
      have g3 := hg 3 _ rfl
      simp [c23, c3, c9] at g0 g1 g2 g3
      obtain ⟨n0, e0, _, k0⟩ := DataW.trod_int Try.underlying3 g0
      obtain ⟨n1, e1, _, k1⟩ := DataW.trod_int Try.underlying3 g1
      obtain ⟨s, e6, _, k6⟩ := DataW.trod_string Try.underlying9 g3
      obtain ⟨zs, m, _, hz, _, hlen2, hh⟩ := DataW.trod_struct Try.underlying51 g2
      match zs, hlen2 with
      | [z0, z1, z2, z3], _ =>
        have j0 := hh 0 _ rfl
        have j1 := hh 1 _ rfl
        have j2 := hh 2 _ rfl
        have j3 := hh 3 _ rfl
        simp [c3] at j0 j1 j2 j3
        obtain ⟨n2, e2, _, k2⟩ := DataW.trod_int Try.underlying3 j0
        obtain ⟨n3, e3, _, k3⟩ := DataW.trod_int Try.underlying3 j1
        obtain ⟨n4, e4, _, k4⟩ := DataW.trod_int Try.underlying3 j2
        obtain ⟨n5, e5, _, k5⟩ := DataW.trod_int Try.underlying3 j3
        simp at e0 e1 e2 e3 e4 e5 e6
        subst e0 e1 e2 e3 e4 e5 e6
        exact ⟨⟨n0, n1, n2, n3, n4, n5, s⟩, rfl, (wf64 k0).1, (wf64 k0).2, k6⟩
theorem open_secs {fuel : Nat} {y : DataW H × List MemPlace} {a : Option Addr} {len cap : Nat} (h : DataW.trod enc Try.prog w base spare held fuel 38 [.slice a len cap] = some y) : ∃ xs, IsL encS SecG w a len cap xs :=
  open_list (α := Sec) (encA := encS) (Good := SecG) (k := 7) encS_length (by decide) Try.underlying38 (by kernel_rfl) (fun n cs y hl hy => open_sec hl hy) h
end
end Go.Proofs.Yticmopgpfplbnaa
