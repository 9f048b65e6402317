/-
  Chapter 24: arguments of type []api.SuspEntry, [][]api.SuspEntry and []api.SuspPlace, opened.
-/
import Derived.Test.YtnomodbcpndocaaAwA
import Derived.Test.YtnomodbcpndocaaOpenL
namespace Go.Proofs.Ytnomodbcpndocaa
open Go.ChangeShapes Go.WideShapes Go.ChangeAt Go.RowKit Go.Deep
set_option linter.unusedVariables false

section
variable {H : Type} {enc : TypeId × Value → H} {w : World} {base : Nat} {spare : Nat → Bool} {held : Bool}
set_option maxRecDepth 100000 in
theorem open_ent {n : Nat} {cs : List Value} {y : DataW H × List MemPlace} (hl : cs.length = 3) (h : DataW.trod enc Try.prog w base spare held n 41 cs = some y) : ∃ x, cs = encE x ∧ EntG x := by
  have c3 : Try.prog.cellsOf 3 = 1 := by kernel_rfl
  have c4 : Try.prog.cellsOf 9 = 1 := by kernel_rfl
  match cs, hl with
  | [a0, a1, a2], _ =>
    obtain ⟨xs, n, _, hx, _, hlen, hg⟩ := DataW.trod_struct Try.underlying41 h
    match xs, hlen with
    | [y0, y1, y2], _ =>
      have g0 := hg 0 _ rfl
      have g1 := hg 1 _ rfl
      have g2 := hg 2 _ rfl
      simp [c3, c4] at g0 g1 g2
      obtain ⟨s0, e0, _, k0⟩ := DataW.trod_string Try.underlying9 g0
      obtain ⟨n1, e1, _, k1⟩ := DataW.trod_int Try.underlying3 g1
      obtain ⟨s2, e2, _, k2⟩ := DataW.trod_string Try.underlying9 g2
      simp at e0 e1 e2
      subst e0 e1 e2
      exact ⟨⟨s0, n1, s2⟩, rfl, ⟨k1, k0, k2⟩⟩
theorem open_ents {fuel : Nat} {y : DataW H × List MemPlace} {a : Option Addr} {len cap : Nat} (h : DataW.trod enc Try.prog w base spare held fuel 22 [.slice a len cap] = some y) : ∃ xs, IsL encE EntG w a len cap xs :=
  open_list (α := Ent) (encA := encE) (Good := EntG) (k := 3) encE_length (by decide) Try.underlying22 (by kernel_rfl) (fun n cs y hl hy => open_ent hl hy) h
set_option maxRecDepth 100000 in
theorem open_plc {n : Nat} {cs : List Value} {y : DataW H × List MemPlace} (hl : cs.length = 2) (h : DataW.trod enc Try.prog w base spare held n 53 cs = some y) : ∃ x, cs = encP x ∧ PlG x := by
  have c3 : Try.prog.cellsOf 3 = 1 := by kernel_rfl
  match cs, hl with
  | [a0, a1], _ =>
    obtain ⟨xs, n, _, hx, _, hlen, hg⟩ := DataW.trod_struct Try.underlying53 h
    match xs, hlen with
    | [y0, y1], _ =>
      have g0 := hg 0 _ rfl
      have g1 := hg 1 _ rfl
      simp [c3] at g0 g1
      obtain ⟨n0, e0, _, k0⟩ := DataW.trod_int Try.underlying3 g0
      obtain ⟨n1, e1, _, k1⟩ := DataW.trod_int Try.underlying3 g1
      simp at e0 e1
      subst e0 e1
      exact ⟨⟨n0, n1⟩, rfl, ⟨wf_i64 k0, wf_i64 k1⟩⟩
theorem open_plcs {fuel : Nat} {y : DataW H × List MemPlace} {a : Option Addr} {len cap : Nat} (h : DataW.trod enc Try.prog w base spare held fuel 51 [.slice a len cap] = some y) : ∃ xs, IsL encP PlG w a len cap xs :=
  open_list (α := Pl) (encA := encP) (Good := PlG) (k := 2) encP_length (by decide) Try.underlying51 (by kernel_rfl) (fun n cs y hl hy => open_plc hl hy) h
end
/-- A group of an argument: a slice and its entries. -/
structure Gr where
  A : Option Addr
  c : Nat
  l : List Ent
instance : Inhabited Gr := ⟨⟨none, 0, []⟩⟩
def encGr (x : Gr) : List Value := [.slice x.A x.l.length x.c]
def GrG (w : World) (x : Gr) : Prop := EnAt w w.heap.size x.A x.l ∧ x.l.length ≤ x.c ∧ x.c ≤ maxLen ∧ ∀ e ∈ x.l, EntG e
section
variable {H : Type} {enc : TypeId × Value → H} {w : World} {base : Nat} {spare : Nat → Bool} {held : Bool}
theorem open_gr {n : Nat} {cs : List Value} {y : DataW H × List MemPlace} (hl : cs.length = 1) (h : DataW.trod enc Try.prog w base spare held n 22 cs = some y) : ∃ x, cs = encGr x ∧ GrG w x := by
  match cs, hl with
  | [a0], _ =>
    obtain ⟨A, l, c, rfl⟩ : ∃ A l c, a0 = .slice A l c := by
      rcases open_slice Try.underlying22 h with ⟨hc, _⟩ | ⟨ad, l, c, m, n, D, Pl, hc, _⟩
      · simp at hc; exact ⟨_, _, _, hc⟩
      · simp at hc; exact ⟨_, _, _, hc⟩
    obtain ⟨xs, hx⟩ := open_ents h
    obtain ⟨h1, h2, h3, h4, h5⟩ := hx
    subst h1
    exact ⟨⟨A, c, xs⟩, rfl, h4, h2, h3, h5⟩
theorem open_grs {fuel : Nat} {y : DataW H × List MemPlace} {a : Option Addr} {len cap : Nat} (h : DataW.trod enc Try.prog w base spare held fuel 33 [.slice a len cap] = some y) : ∃ xs, IsL encGr (GrG w) w a len cap xs :=
  open_list (α := Gr) (encA := encGr) (Good := GrG w) (k := 1) (fun _ => rfl) (by decide) Try.underlying33 (by kernel_rfl) (fun n cs y hl hy => open_gr hl hy) h
end
theorem IsL.grs {w : World} {a : Option Addr} {len cap : Nat} {xs : List Gr} (h : IsL encGr (GrG w) w a len cap xs) : xs.length = len ∧ len ≤ cap ∧ cap ≤ maxLen ∧ SlAt w w.heap.size a (flat encGr xs) ∧ GrAt w w.heap.size (flat encGr xs) (xs.map (·.l)) := by
  obtain ⟨h1, h2, h3, h4, h5⟩ := h
  refine ⟨h1, h2, h3, h4, ?_, fun i l hl => ?_⟩
  · rw [flat_length (k := 1) (fun _ => rfl), List.length_map]
    omega
  · rw [List.getElem?_map] at hl
    obtain ⟨x, hx, rfl⟩ := Option.map_eq_some_iff.1 hl
    obtain ⟨g1, g2, _, _⟩ := h5 x (List.mem_of_getElem? hx)
    refine ⟨x.A, x.c, ?_, g2, g1⟩
    have := flat_get (k := 1) (enc := encGr) (fun _ => rfl) xs i 0 x hx (by omega)
    rw [Nat.mul_one, Nat.add_zero] at this
    rw [this]
    rfl
end Go.Proofs.Ytnomodbcpndocaa
