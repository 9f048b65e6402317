/-
  Chapter 52: Flush: the ways that end ahead of the writes.
-/
import Derived.Test.YtdmdfpdigoijoaaPwF
namespace Go.Proofs.Ytdmdfpdigoijoaa
open Go.RowKit
set_option linter.unusedVariables false

theorem isE_false {b : ByteArray} (h : b.toList ≠ []) : b.toList.isEmpty = false := by
  cases hq : b.toList with
  | nil => exact absurd hq h
  | cons a t => rfl
set_option maxRecDepth 100000 in
set_option maxHeartbeats 2000000 in
theorem flush_arg (base0 g : Nat) (st ba : Int) (l : List Pend) (ctl : ByteArray) (w : World) (h : WtAt w base0 g st ba l) (hl : l.length ≤ 100000) (hst : 0 ≤ st) (h1 : st ≤ lastL ba l) (h2 : lastL ba l ≤ 1000000)
    (hc : ctl.toList ≠ []) (hs : ctl.size ≠ 2048) :
    Calls Try.prog 27 #[.pointer (some ⟨g, 0, none⟩), .string ctl] w fun e w' => e = .returned (.tuple #[.slice none 0 0, .int .i64 1]) ∧ Below w.heap.size w w' := by
  have CT := Lib.hid (control_any base0 g st ba l w h (by omega) hst h1 h2)
  have HW := Lib.hid h
  have OP := Lib.hid (open_any base0 g st ba l w h hl)
  obtain ⟨E, hE⟩ : ∃ E, ctlL st ba l = E := ⟨_, rfl⟩
  have hEb : 0 ≤ E ∧ E ≤ 1000007 := by rw [← hE]; unfold ctlL; omega
  have hEw : IntKind.i64.wrap (E + 1) = E + 1 := IntWalk.i64_in _ (by omega)
  have HE := Lib.hid hE
  rw [hE] at CT
  clear h hE
  have hcB := isE_false hc
  have hsI : ¬ ((ctl.size : Int) = 2048) := by omega
  clear hc
  go_enter Try.func27, Try.ntmps27
  go_wp2_with fail
  refine CT.out.mono ?_
  rintro e w1 ⟨rfl, rfl⟩
  go_wp2_with fail
  go_ret2
  exact ⟨rfl, Below.refl _ _⟩
set_option maxRecDepth 100000 in
set_option maxHeartbeats 2000000 in
theorem flush_state (base0 g : Nat) (st ba : Int) (l : List Pend) (ctl : ByteArray) (w : World) (h : WtAt w base0 g st ba l) (hl : l.length ≤ 100000) (hst : 0 ≤ st) (h1 : st ≤ lastL ba l) (h2 : lastL ba l ≤ 1000000)
    (hc : ctl.toList = [] ∨ (ctl.toList ≠ [] ∧ ctl.size = 2048)) (ho : openL l ≠ []) :
    Calls Try.prog 27 #[.pointer (some ⟨g, 0, none⟩), .string ctl] w fun e w' => e = .returned (.tuple #[.slice none 0 0, .int .i64 8]) ∧ Below w.heap.size w w' := by
  have CT := Lib.hid (control_any base0 g st ba l w h (by omega) hst h1 h2)
  have HW := Lib.hid h
  have OP := Lib.hid (open_any base0 g st ba l w h hl)
  obtain ⟨E, hE⟩ : ∃ E, ctlL st ba l = E := ⟨_, rfl⟩
  have hEb : 0 ≤ E ∧ E ≤ 1000007 := by rw [← hE]; unfold ctlL; omega
  have hEw : IntKind.i64.wrap (E + 1) = E + 1 := IntWalk.i64_in _ (by omega)
  have HE := Lib.hid hE
  rw [hE] at CT
  clear h hE
  obtain ⟨m, hm⟩ : ∃ m, (openL l).length = m := ⟨_, rfl⟩
  have hm0 : 0 < m := by rw [← hm]; exact List.length_pos_iff.2 ho
  have hmI : (0 : Int) < (m : Int) := by omega
  unfold OpenRes at OP
  rw [hm] at OP
  clear hm ho
  have hcB : ctl.toList.isEmpty = true ∨ (ctl.toList.isEmpty = false ∧ (ctl.size : Int) = 2048) := by
    rcases hc with h | ⟨h, h3⟩
    · left; rw [h]; rfl
    · right; exact ⟨isE_false h, by omega⟩
  clear hc
  go_enter Try.func27, Try.ntmps27
  go_wp2_with fail
  refine CT.out.mono ?_
  rintro e w1 ⟨rfl, rfl⟩
  rcases hcB with hcB | ⟨hcB, hsI⟩
  all_goals
    go_wp2_with fail
    refine OP.out.mono ?_
    rintro e w1 ⟨hb1, A, c, rfl, hown⟩
    go_wp2_with fail
    go_ret2
    exact ⟨rfl, hb1⟩
set_option maxRecDepth 100000 in
set_option maxHeartbeats 2000000 in
theorem flush_none (base0 g : Nat) (st ba : Int) (l : List Pend) (ctl : ByteArray) (w : World) (h : WtAt w base0 g st ba l) (hl : l.length ≤ 100000) (hst : 0 ≤ st) (h1 : st ≤ lastL ba l) (h2 : lastL ba l ≤ 1000000)
    (hc : ctl.toList = []) (h0 : l = []) (ho : openL l = []) :
    Calls Try.prog 27 #[.pointer (some ⟨g, 0, none⟩), .string ctl] w fun e w' => e = .returned (.tuple #[.slice none 0 0, .int .i64 0]) ∧ Below w.heap.size w w' := by
  have CT := Lib.hid (control_any base0 g st ba l w h (by omega) hst h1 h2)
  have OP := Lib.hid (open_any base0 g st ba l w h hl)
  obtain ⟨Al, cl, hr, _⟩ := h
  have HR := Lib.hid hr
  have hlt := hr.lt
  obtain ⟨E, hE⟩ : ∃ E, ctlL st ba l = E := ⟨_, rfl⟩
  have hEb : 0 ≤ E ∧ E ≤ 1000007 := by rw [← hE]; unfold ctlL; omega
  have hEw : IntKind.i64.wrap (E + 1) = E + 1 := IntWalk.i64_in _ (by omega)
  rw [hE] at CT
  unfold OpenRes at OP
  rw [ho] at OP
  obtain ⟨n, hn⟩ : ∃ n, l.length = n := ⟨_, rfl⟩
  rw [hn] at HR
  have hn0 : n = 0 := by rw [← hn, h0]; rfl
  subst hn0
  have hcB : ctl.toList.isEmpty = true := by rw [hc]; rfl
  clear hE hr hc h0 ho hn
  go_enter Try.func27, Try.ntmps27
  go_wp2_with fail
  refine CT.out.mono ?_
  rintro e w1 ⟨rfl, rfl⟩
  go_wp2_with fail
  refine OP.out.mono ?_
  rintro e w1 ⟨hb1, A, c, rfl, hown⟩
  have q := (HR.out.below hb1 hlt).cell
  clear hown
  go_wp2_with fail
  go_ret2
  exact ⟨rfl, hb1⟩
set_option maxRecDepth 100000 in
set_option maxHeartbeats 2000000 in
theorem flush_full (base0 g : Nat) (st ba : Int) (l : List Pend) (ctl : ByteArray) (w : World) (h : WtAt w base0 g st ba l) (hl : l.length ≤ 100000) (hst : 0 ≤ st) (h1 : st ≤ lastL ba l) (h2 : lastL ba l ≤ 1000000)
    (hc : ctl.toList = [] ∨ (ctl.toList ≠ [] ∧ ctl.size = 2048)) (ho : openL l = []) (h0 : ¬ (l = [] ∧ ctl.toList = [])) (hf : 4096 < ctlL st ba l + 1) :
    Calls Try.prog 27 #[.pointer (some ⟨g, 0, none⟩), .string ctl] w fun e w' => e = .returned (.tuple #[.slice none 0 0, .int .i64 12]) ∧ Below w.heap.size w w' := by
  have CT := Lib.hid (control_any base0 g st ba l w h (by omega) hst h1 h2)
  have OP := Lib.hid (open_any base0 g st ba l w h hl)
  obtain ⟨Al, cl, hr, _⟩ := h
  have HR := Lib.hid hr
  have hlt := hr.lt
  obtain ⟨E, hE⟩ : ∃ E, ctlL st ba l = E := ⟨_, rfl⟩
  have hEb : 0 ≤ E ∧ E ≤ 1000007 := by rw [← hE]; unfold ctlL; omega
  have hEw : IntKind.i64.wrap (E + 1) = E + 1 := IntWalk.i64_in _ (by omega)
  rw [hE] at CT
  unfold OpenRes at OP
  rw [ho] at OP
  obtain ⟨n, hn⟩ : ∃ n, l.length = n := ⟨_, rfl⟩
  rw [hn] at HR
  have hcB : (ctl.toList.isEmpty = true ∧ ¬ n = 0) ∨ (ctl.toList.isEmpty = false ∧ (ctl.size : Int) = 2048) := by
    rcases hc with h | ⟨h, h3⟩
    · left
      refine ⟨by rw [h]; rfl, fun e => h0 ⟨List.eq_nil_of_length_eq_zero (by omega), h⟩⟩
    · right; exact ⟨isE_false h, by omega⟩
  have hfE : 4096 < E + 1 := by omega
  clear hE hr hc h0 ho hn hf
  go_enter Try.func27, Try.ntmps27
  go_wp2_with fail
  refine CT.out.mono ?_
  rintro e w1 ⟨rfl, rfl⟩
  rcases hcB with ⟨hcB, hn0⟩ | ⟨hcB, hsI⟩
  all_goals
    go_wp2_with fail
    refine OP.out.mono ?_
    rintro e w1 ⟨hb1, A, c, rfl, hown⟩
    have q := (HR.out.below hb1 hlt).cell
    clear hown
    go_wp2_with fail
    all_goals (go_ret2; exact ⟨rfl, hb1⟩)
end Go.Proofs.Ytdmdfpdigoijoaa
