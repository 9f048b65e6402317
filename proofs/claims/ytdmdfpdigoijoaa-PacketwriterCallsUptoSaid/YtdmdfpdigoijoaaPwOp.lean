/-
  Chapter 52: an argument of type []api.Write, opened to the list of its writes; what the laws ask first.
-/
import Derived.Test.YtdmdfpdigoijoaaPwAw
import Derived.Test.YtdmdfpdigoijoaaOpenL
namespace Go.Proofs.Ytdmdfpdigoijoaa
open Go.ChangeShapes Go.WideShapes Go.ChangeAt Go.RowKit Go.Deep
set_option linter.unusedVariables false

instance : Inhabited Wr := ⟨⟨0, none, 0, [], false, false⟩⟩
def WrG (w : World) (x : Wr) : Prop := SlAt w w.heap.size x.A (strV x.bl) ∧ x.bl.length ≤ x.cap ∧ x.cap ≤ maxLen
section
variable {H : Type} {enc : TypeId × Value → H} {w : World} {base : Nat} {spare : Nat → Bool} {held : Bool}
set_option maxRecDepth 100000 in
theorem open_wr {n : Nat} {cs : List Value} {y : DataW H × List MemPlace} (hl : cs.length = 4) (h : DataW.trod enc Try.prog w base spare held n 49 cs = some y) : ∃ x, cs = encW x ∧ WrG w x := by
  have c3 : Try.prog.cellsOf 3 = 1 := by kernel_rfl
  have c4 : Try.prog.cellsOf 4 = 1 := by kernel_rfl
  have c5 : Try.prog.cellsOf 22 = 1 := by kernel_rfl
  match cs, hl with
  | [a0, a1, a2, a3], _ =>
    obtain ⟨xs, n, _, hx, _, hlen, hg⟩ := DataW.trod_struct Try.underlying49 h
    match xs, hlen with
    | [y0, y1, y2, y3], _ =>
      have g0 := hg 0 _ rfl
      have g1 := hg 1 _ rfl
      have g2 := hg 2 _ rfl
      have g3 := hg 3 _ rfl
      simp [c3, c4, c5] at g0 g1 g2 g3
      obtain ⟨n0, e0, _, k0⟩ := DataW.trod_int Try.underlying3 g0
      obtain ⟨n2, e2, _⟩ := DataW.trod_bool Try.underlying4 g2
      obtain ⟨n3, e3, _⟩ := DataW.trod_bool Try.underlying4 g3
      simp at e0 e2 e3
      subst e0 e2 e3
      obtain ⟨A, l, c, rfl⟩ : ∃ A l c, a1 = .slice A l c := by
        rcases open_slice Try.underlying22 g1 with ⟨hc, _⟩ | ⟨ad, l, c, m, n, D, Pl, hc, _⟩
        · simp at hc; exact ⟨_, _, _, hc⟩
        · simp at hc; exact ⟨_, _, _, hc⟩
      obtain ⟨bl, hbl⟩ := open_strs Try.underlying22 Try.underlying9 (by kernel_rfl) g1
      obtain ⟨h1, h2, h3, h4, _⟩ := hbl.strs
      subst h1
      exact ⟨⟨n0, A, c, bl, n2, n3⟩, rfl, h4, h2, h3⟩
theorem open_wrs {fuel : Nat} {y : DataW H × List MemPlace} {a : Option Addr} {len cap : Nat} (h : DataW.trod enc Try.prog w base spare held fuel 24 [.slice a len cap] = some y) : ∃ xs, IsL encW (WrG w) w a len cap xs :=
  open_list (α := Wr) (encA := encW) (Good := WrG w) (k := 4) encW_length (by decide) Try.underlying24 (by kernel_rfl) (fun n cs y hl hy => open_wr hl hy) h
end
theorem IsL.wrs {w : World} {a : Option Addr} {len cap : Nat} {xs : List Wr} (h : IsL encW (WrG w) w a len cap xs) : xs.length = len ∧ len ≤ cap ∧ cap ≤ maxLen ∧ WrAt w w.heap.size a xs := ⟨h.1, h.2.1, h.2.2.1, h.2.2.2.1, h.2.2.2.2⟩

/-- An image and writes in memory. -/
structure Arg (w : World) (A A' : Option Addr) (img : Img) (ws : List Wr) : Prop where
  s : SlAt w w.heap.size A (strV img)
  t : WrAt w w.heap.size A' ws
theorem Arg.below {w w' : World} {A A' : Option Addr} {img : Img} {ws : List Wr} (h : Arg w A A' img ws) (hb : Below w.heap.size w w') : Arg w' A A' img ws := ⟨(h.s.below hb).mono hb.size, (h.t.below hb).mono hb.size⟩
theorem nSt_few {ws : List Wr} {c : Nat} (h : ∀ x ∈ ws, x.bl.length ≤ c) : nSt ws ≤ (c + 1) * ws.length := by
  have : ∀ k, k ≤ ws.length → nSt (ws.take k) ≤ (c + 1) * k := by
    intro k
    induction k with
    | zero => intro _; simp [nSt, stepsL]
    | succ k ih =>
      intro hk
      have hx : ws[k]? = some ws[k] := List.getElem?_eq_getElem (by omega)
      rw [nSt_take hx]
      have := ih (by omega)
      have := h _ (List.getElem_mem (h := show k < ws.length by omega))
      have : (if ws[k].close then 1 else 0) ≤ 1 := by split <;> omega
      rw [Nat.mul_succ]
      omega
  have h2 := this ws.length (Nat.le_refl _)
  rwa [List.take_length] at h2
/-- What 'few' gives. -/
structure FewG (img : Img) (ws : List Wr) : Prop where
  i : img.length ≤ 600
  w : ws.length ≤ 30
  x : ∀ x ∈ ws, x.bl.length ≤ 40
  n : nSt ws ≤ 1230
theorem few_of {img : Img} {ws : List Wr} (h : fewB img ws = true) : FewG img ws := by
  unfold fewB at h
  simp only [Bool.and_eq_true, decide_eq_true_eq, List.all_eq_true] at h
  refine ⟨h.1, h.2.1, h.2.2, ?_⟩
  have := nSt_few h.2.2
  omega
theorem FewG.i6 {img : Img} {ws : List Wr} (h : FewG img ws) : img.length ≤ 1000000 := by have := h.i; omega
theorem FewG.w6 {img : Img} {ws : List Wr} (h : FewG img ws) : ws.length ≤ 1000000 := by have := h.w; omega
theorem FewG.w3 {img : Img} {ws : List Wr} (h : FewG img ws) : ws.length ≤ 1000 := by have := h.w; omega
theorem FewG.x6 {img : Img} {ws : List Wr} (h : FewG img ws) : ∀ x ∈ ws, x.bl.length ≤ 1000000 := fun x hx => by have := h.x x hx; omega
theorem FewG.x4 {img : Img} {ws : List Wr} (h : FewG img ws) : ∀ x ∈ ws, x.bl.length ≤ 10000 := fun x hx => by have := h.x x hx; omega
theorem FewG.n12 {img : Img} {ws : List Wr} (h : FewG img ws) : nSt ws ≤ 1000000000000 := by have := h.n; omega
theorem cutR_len {img : Img} {ws : List Wr} {n : Int} (hg : FewG img ws) (h : validB img ws = true) : (cutR img ws n).1.length ≤ 1000000 := by
  unfold cutR
  rw [if_pos h]
  split
  · exact Nat.zero_le _
  · have hw : ws.all wrOk = true := by
      unfold validB at h
      simp only [Bool.and_eq_true] at h
      exact h.2.2.2
    have hi := hg.i
    have hs := steps_ok hw
    have : ∀ k, (cutK n.toNat (stepsL ws) img k).length ≤ 4096 := by
      intro k
      induction k with
      | zero => show img.length ≤ 4096; omega
      | succ k ih =>
        cases hk : (stepsL ws)[k]? with
        | none => unfold cutK; rw [hk]; exact ih
        | some s => rw [cutK_succ hk]; exact apS_len (hs s (List.mem_of_getElem? hk)) ih
    have h4 := this (min (n.toNat + 1) (stepsL ws).length)
    show (cutL n.toNat (stepsL ws) img).length ≤ 1000000
    unfold cutL
    omega
theorem cutR_len' {img : Img} {ws : List Wr} {n : Int} (hg : FewG img ws) : (cutR img ws n).1.length ≤ 1000000 := by
  cases h : validB img ws with
  | true => exact cutR_len hg h
  | false => unfold cutR; rw [h, if_neg (by simp)]; exact Nat.zero_le _
end Go.Proofs.Ytdmdfpdigoijoaa
