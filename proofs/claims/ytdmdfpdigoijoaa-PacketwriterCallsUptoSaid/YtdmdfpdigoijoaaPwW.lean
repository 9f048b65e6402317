/-
  Chapter 52: the writer: New, Usable, Control.
-/
import Derived.Test.YtdmdfpdigoijoaaPwV
namespace Go.Proofs.Ytdmdfpdigoijoaa
open Go.RowKit
set_option linter.unusedVariables false

structure Pend where
  lba : Int
  blk : ByteArray
def encP (x : Pend) : List Value := [.int .i64 x.lba, .string x.blk]
theorem encP_length (x : Pend) : (encP x).length = 2 := rfl
/-- The writer in block g. -/
def WtAt (w : World) (base0 g : Nat) (st ba : Int) (l : List Pend) : Prop :=
  ∃ A c, RowAt w g 109 #[.int .i64 st, .int .i64 ba, .slice A l.length c] ∧ w.ownsRow base0 114 2 (.slice A l.length c) l.length (flat encP l)

def usB (s l : Int) : Bool := decide (0 ≤ s) && (decide (s ≤ l) && !decide ((l - s) % 8 = 7))
theorem usable_any (s l : Int) (w : World) (hs : s ≤ 1000000000000) (hl : -1000000000000 ≤ l ∧ l ≤ 1000000000000) : Calls Try.prog 28 #[.int .i64 s, .int .i64 l] w fun e w' => e = .returned (.bool (usB s l)) ∧ w = w' := by
  by_cases h0 : 0 ≤ s
  · by_cases h1 : s ≤ l
    · have HU : Hid (usB s l = !decide ((l - s) % 8 = 7)) := Lib.hid (by unfold usB; rw [decide_eq_true h0, decide_eq_true h1]; rfl)
      have e1 : (l - s).tmod 8 = (l - s) % 8 := Int.tmod_eq_emod_of_nonneg (by omega)
      by_cases h2 : (l - s) % 8 = 7
      · have h2b : ((l - s) % 8 != 7) = false := by rw [bne_eq_false_iff_eq]; exact h2
        have HV : Hid (usB s l = false) := Lib.hid (by rw [HU.out, decide_eq_true h2]; rfl)
        clear h2
        go_enter Try.func28, Try.ntmps28
        go_wp2_with fail
        go_ret
        exact ⟨ret_bool HV.out.symm, rfl⟩
      · have h2b : ((l - s) % 8 != 7) = true := by rw [bne_iff_ne]; exact h2
        have HV : Hid (usB s l = true) := Lib.hid (by rw [HU.out, decide_eq_false h2]; rfl)
        clear h2
        go_enter Try.func28, Try.ntmps28
        go_wp2_with fail
        go_ret
        exact ⟨ret_bool HV.out.symm, rfl⟩
    · have HV : Hid (usB s l = false) := Lib.hid (by unfold usB; rw [decide_eq_false h1]; simp)
      go_enter Try.func28, Try.ntmps28
      go_wp2_with fail
      go_ret
      exact ⟨ret_bool HV.out.symm, rfl⟩
  · have HV : Hid (usB s l = false) := Lib.hid (by unfold usB; rw [decide_eq_false h0]; rfl)
    go_enter Try.func28, Try.ntmps28
    go_wp2_with fail
    go_ret
    exact ⟨ret_bool HV.out.symm, rfl⟩

/-- The first block of the first packet that begins at next or later. -/
def baseOf (s n : Int) : Int := s + (n - s + 7) / 8 * 8
def newE (s n : Int) : Int := if s < 0 ∨ n < s ∨ 4096 < n then 1 else if 4096 < baseOf s n + 8 then 12 else 0
set_option maxHeartbeats 1000000 in
theorem new_no (s n : Int) (w : World) (h : newE s n ≠ 0) : Calls Try.prog 23 #[.int .i64 s, .int .i64 n] w fun e w' => e = .returned (.tuple #[.pointer none, .int .i64 (newE s n)]) ∧ Below w.heap.size w w' := by
  by_cases h1 : s < 0 ∨ n < s ∨ 4096 < n
  · have HE : Hid (newE s n = 1) := Lib.hid (by unfold newE; rw [if_pos h1])
    rw [HE.out]
    clear h
    have h1' : s < 0 ∨ (¬ s < 0 ∧ n < s) ∨ (¬ s < 0 ∧ ¬ n < s ∧ 4096 < n) := by omega
    clear h1
    rcases h1' with h1 | ⟨h1, h2⟩ | ⟨h1, h2, h3⟩
    all_goals
      go_enter Try.func23, Try.ntmps23
      go_wp2_with fail
      go_ret2
      exact ⟨rfl, Below.refl _ _⟩
  · have h2 : 4096 < baseOf s n + 8 := by
      unfold newE at h
      rw [if_neg h1] at h
      rcases Int.lt_or_le 4096 (baseOf s n + 8) with h2 | h2
      · exact h2
      · rw [if_neg (by omega)] at h; exact absurd rfl h
    have HE : Hid (newE s n = 12) := Lib.hid (by unfold newE; rw [if_neg h1, if_pos h2])
    rw [HE.out]
    have a1 : ¬ s < 0 := by omega
    have a2 : ¬ n < s := by omega
    have a3 : ¬ 4096 < n := by omega
    have e1 : (n - s + 8 - 1).tdiv 8 = (n - s + 7) / 8 := by rw [Int.tdiv_eq_ediv_of_nonneg (by omega)]; congr 1; omega
    have e2 : (n - s + 8 - 1) / 8 = (n - s + 7) / 8 := by congr 1; omega
    unfold baseOf at h2
    clear h h1
    go_enter Try.func23, Try.ntmps23
    go_wp2_with fail
    go_ret2
    exact ⟨rfl, (Below.refl _ _).alloc (Nat.le_refl _) _⟩
set_option maxHeartbeats 1000000 in
theorem new_ok (s n : Int) (w : World) (h : newE s n = 0) : Calls Try.prog 23 #[.int .i64 s, .int .i64 n] w fun e w' => e = .returned (.tuple #[.pointer (some ⟨w.heap.size, 0, none⟩), .int .i64 0]) ∧ w' = w.alloc (.cells #[.int .i64 s, .int .i64 (baseOf s n), .slice none 0 0] 109) := by
  have h1 : ¬ (s < 0 ∨ n < s ∨ 4096 < n) := fun c => by unfold newE at h; rw [if_pos c] at h; cases h
  have h2 : ¬ 4096 < baseOf s n + 8 := fun c => by unfold newE at h; rw [if_neg h1, if_pos c] at h; cases h
  have a1 : ¬ s < 0 := by omega
  have a2 : ¬ n < s := by omega
  have a3 : ¬ 4096 < n := by omega
  have e1 : (n - s + 8 - 1).tdiv 8 = (n - s + 7) / 8 := by rw [Int.tdiv_eq_ediv_of_nonneg (by omega)]; congr 1; omega
  have e2 : (n - s + 8 - 1) / 8 = (n - s + 7) / 8 := by congr 1; omega
  unfold baseOf at h2 ⊢
  clear h h1
  go_enter Try.func23, Try.ntmps23
  go_wp2_with fail
  go_ret2
  exact ⟨rfl, rfl⟩

/-- The last address that is pending, or the base. -/
def lastL (ba : Int) (l : List Pend) : Int := match l.getLast? with | some x => x.lba | none => ba
def ctlL (st ba : Int) (l : List Pend) : Int := lastL ba l - (lastL ba l - st) % 8 + 7
theorem lastL_cells {w : World} {base0 g c : Nat} {l : List Pend} (h : w.ownsRow base0 114 2 (.slice (some ⟨g, 0, none⟩) l.length c) l.length (flat encP l)) {k : Nat} {x : Pend} (hk : l[k]? = some x) :
    w.cell? ⟨g, k * 2, none⟩ = some (.int .i64 x.lba) ∧ w.cell? ⟨g, k * 2 + 1, none⟩ = some (.string x.blk) := by
  have hlt := (List.getElem?_eq_some_iff.1 hk).1
  have h0 := h.cellAt (k * 2) (by omega)
  have h1 := h.cellAt (k * 2 + 1) (by omega)
  have f0 := flat_get encP_length l k 0 x hk (by omega)
  have f1 := flat_get encP_length l k 1 x hk (by omega)
  rw [Nat.add_zero] at f0
  exact ⟨h0.trans (f0.trans rfl), h1.trans (f1.trans rfl)⟩
set_option maxHeartbeats 1000000 in
theorem control_any (base0 g : Nat) (st ba : Int) (l : List Pend) (w : World) (h : WtAt w base0 g st ba l) (hl : l.length ≤ 1000000) (hst : 0 ≤ st) (h1 : st ≤ lastL ba l) (h2 : lastL ba l ≤ 1000000) :
    Calls Try.prog 26 #[.pointer (some ⟨g, 0, none⟩)] w fun e w' => e = .returned (.int .i64 (ctlL st ba l)) ∧ w = w' := by
  obtain ⟨A, c, hr, ho⟩ := h
  have q := hr.cell
  obtain ⟨n, hn⟩ : ∃ n, l.length = n := ⟨_, rfl⟩
  by_cases h0 : 0 < n
  · obtain ⟨x, hx⟩ : ∃ x, l[n - 1]? = some x := ⟨l[n - 1]'(by omega), List.getElem?_eq_getElem _⟩
    have hlast : Hid (lastL ba l = x.lba) := Lib.hid (by unfold lastL; rw [List.getLast?_eq_getElem?, hn, hx])
    obtain ⟨gl, cap, hv, _, _, _⟩ := own_form ho (by omega)
    injection hv with hA _ hc
    subst hA hc
    obtain ⟨p0, p1⟩ := lastL_cells ho hx
    have HC : Hid (ctlL st ba l = x.lba - (x.lba - st) % 8 + 7) := Lib.hid (by unfold ctlL; rw [hlast.out])
    rw [hlast.out] at h1 h2
    rw [HC.out]
    rw [hn] at q hl
    have e1 : ((n : Int) - 1).toNat = n - 1 := by omega
    have e2 : (x.lba - st).tmod 8 = (x.lba - st) % 8 := Int.tmod_eq_emod_of_nonneg (by omega)
    have h0I : (0 : Int) < (n : Int) := by omega
    have h0a : (0 : Int) ≤ (n : Int) - 1 := by omega
    clear hn ho hx hr
    generalize x.lba = lx at *
    go_enter Try.func26, Try.ntmps26
    go_wp2_with fail

    go_ret
    exact ⟨ret_int (by omega), rfl⟩
  · obtain rfl : l = [] := List.eq_nil_of_length_eq_zero (by omega)
    have HC : Hid (ctlL st ba [] = ba - (ba - st) % 8 + 7) := rfl
    have h1' : st ≤ ba := h1
    have h2' : ba ≤ 1000000 := h2
    rw [HC.out]
    have e2 : (ba - st).tmod 8 = (ba - st) % 8 := Int.tmod_eq_emod_of_nonneg (by omega)
    rw [List.length_nil] at q
    clear hn ho hr h1 h2 h0
    go_enter Try.func26, Try.ntmps26
    go_wp2_with fail
    go_ret
    exact ⟨ret_int (by omega), rfl⟩
end Go.Proofs.Ytdmdfpdigoijoaa
