/-
  Chapter 52: the writer: find, Fill, Block.
-/
import Derived.Test.YtdmdfpdigoijoaaPwRs
namespace Go.Proofs.Ytdmdfpdigoijoaa
open Go.RowKit
set_option linter.unusedVariables false

/-- The index of a pending address, or -1. -/
def findP (l : List Pend) (a : Int) : Int := match l.findIdx? (fun x => decide (x.lba = a)) with | some i => (i : Int) | none => -1
theorem findIdx_hit {l : List Pend} {a : Int} {k : Nat} {x : Pend} (h : l[k]? = some x) (hx : x.lba = a) (hn : ∀ (i : Nat) (y : Pend), i < k → l[i]? = some y → y.lba ≠ a) : findP l a = (k : Int) := by
  have hk := (List.getElem?_eq_some_iff.1 h).1
  have : l.findIdx? (fun x => decide (x.lba = a)) = some k := by
    rw [List.findIdx?_eq_some_iff_getElem]
    refine ⟨hk, ?_, fun j hj => ?_⟩
    · rw [(List.getElem?_eq_some_iff.1 h).2]; exact decide_eq_true hx
    · have := hn j l[j] hj (List.getElem?_eq_getElem (by omega))
      simpa using this
  unfold findP
  rw [this]
theorem findIdx_none {l : List Pend} {a : Int} (hn : ∀ (i : Nat) (y : Pend), l[i]? = some y → y.lba ≠ a) : findP l a = -1 := by
  have : l.findIdx? (fun x => decide (x.lba = a)) = none := by
    rw [List.findIdx?_eq_none_iff]
    intro x hx
    obtain ⟨i, hi⟩ := List.getElem?_of_mem hx
    have := hn i x hi
    simpa using this
  unfold findP
  rw [this]
theorem findP_cases (l : List Pend) (a : Int) : (findP l a = -1 ∧ ∀ x ∈ l, x.lba ≠ a) ∨ ∃ (k : Nat) (x : Pend), findP l a = (k : Int) ∧ l[k]? = some x ∧ x.lba = a ∧ ∀ (i : Nat) (y : Pend), i < k → l[i]? = some y → y.lba ≠ a := by
  unfold findP
  cases hq : l.findIdx? (fun x => decide (x.lba = a)) with
  | none =>
    left
    refine ⟨rfl, fun x hx => ?_⟩
    have := List.findIdx?_eq_none_iff.1 hq x hx
    simpa using this
  | some k =>
    right
    obtain ⟨hk, h1, h2⟩ := List.findIdx?_eq_some_iff_getElem.1 hq
    refine ⟨k, l[k], rfl, List.getElem?_eq_getElem hk, by simpa using h1, fun i y hi hy => ?_⟩
    have := h2 i hi
    obtain ⟨_, rfl⟩ := List.getElem?_eq_some_iff.1 hy
    simpa using this
theorem pclose_any (x : Pend) (gb : Nat) (a : Int) (w : World) (h : w.cell? ⟨gb, 0, none⟩ = some (.int .i64 a)) (hlt : gb < w.heap.size) : Calls Try.prog 83 #[.agg #[.int .i64 x.lba, .string x.blk], .pointer (some ⟨gb, 0, none⟩)] w fun e w' => e = .returned (.bool (x.lba == a)) ∧ Below w.heap.size w w' := by
  go_enter Try.func83, Try.ntmps83
  go_wp2_with fail
  go_ret
  exact ⟨rfl, (Below.refl _ _).alloc (Nat.le_refl _) _⟩
set_option maxHeartbeats 1000000 in
theorem pindex_any (base0 : Nat) (l : List Pend) (Al : Option Addr) (cl : Nat) (gb : Nat) (a : Int) (w : World) (ho : w.ownsRow base0 114 2 (.slice Al l.length cl) l.length (flat encP l)) (h : w.cell? ⟨gb, 0, none⟩ = some (.int .i64 a)) (hlt : gb < w.heap.size) (hl : l.length ≤ 1000000) :
    Calls Try.prog 82 #[.slice Al l.length cl, .func (.func 83) #[] #[.pointer (some ⟨gb, 0, none⟩)]] w fun e w' => e = .returned (.int .i64 (findP l a)) ∧ Below w.heap.size w w' := by
  have HO := Lib.hid ho
  have HC := Lib.hid h
  obtain ⟨n, hn⟩ : ∃ n, l.length = n := ⟨_, rfl⟩
  have HN := Lib.hid hn
  rw [hn] at hl HO ⊢
  clear h ho hn
  go_enter Try.func82, Try.ntmps82
  go_wp2_with fail
  go_loopw [8] (fun i wr => ∃ k : Nat, k ≤ n ∧ i = .int .i64 k ∧ Hid (∀ i y, i < k → l[i]? = some y → y.lba ≠ a) ∧ Below w.heap.size w wr) (fun i _ => n - (intOf i).toNat)
  case atStart => exact ⟨0, by omega, rfl, Lib.hid (fun i y hi => absurd hi (by omega)), Below.refl _ _⟩
  case round =>
    obtain ⟨k, hk, rfl, HS, hbel⟩ := hrel
    by_cases hkn : k < n
    · obtain ⟨x, hx⟩ : ∃ x, l[k]? = some x := ⟨l[k]'(by rw [HN.out]; exact hkn), List.getElem?_eq_getElem _⟩
      have ho2 := own_all HO.out hbel
      obtain ⟨gl, cap, hv, _, hgl, _⟩ := own_form ho2 (by omega)
      injection hv with hA _ hc
      subst hA hc
      obtain ⟨p0, p1⟩ := lastL_cells (l := l) (by rw [HN.out]; exact ho2) hx
      have hltI : (k : Int) < (n : Int) := by omega
      have h0k : (0 : Int) ≤ (k : Int) := by omega
      have hglt : gb < wr.heap.size := Nat.lt_of_lt_of_le hlt hbel.size
      have hcell : wr.cell? ⟨gb, 0, none⟩ = some (.int .i64 a) := (hbel.cell (p := ⟨gb, 0, none⟩) hlt).trans HC.out
      have C := Lib.hid (pclose_any x gb a wr hcell hglt)
      have HX := Lib.hid hx
      clear hx ho2 hcell
      by_cases hxa : x.lba = a
      · have hxb : (x.lba == a) = true := by rw [beq_iff_eq]; exact hxa
        have HF : Hid (findP l a = (k : Int)) := Lib.hid (findIdx_hit HX.out hxa HS.out)
        rw [hxb] at C
        clear hxa hxb
        go_wp2_with fail
        refine C.out.mono ?_
        rintro e w1 ⟨rfl, hb1⟩
        go_wp2_with fail
        go_ret
        exact ⟨ret_int HF.out.symm, hbel.trans (hb1.mono hbel.size)⟩
      · have hxb : (x.lba == a) = false := by rw [beq_eq_false_iff_ne]; exact hxa
        have HS2 : Hid (∀ i y, i < k + 1 → l[i]? = some y → y.lba ≠ a) := Lib.hid (fun i y hi hy => by
          rcases Nat.lt_or_ge i k with h | h
          · exact HS.out i y h hy
          · obtain rfl : i = k := by omega
            have := HX.out
            rw [hy] at this
            injection this with this
            rw [this]; exact hxa)
        rw [hxb] at C
        clear hxa hxb
        go_wp2_with fail
        refine C.out.mono ?_
        rintro e w1 ⟨rfl, hb1⟩
        go_wp2_with fail
        go_roundw
        case rel => exact ⟨k + 1, by omega, by go_num, HS2, hbel.trans (hb1.mono hbel.size)⟩
        case measure => simp [intOf]; omega
    · have hge : ¬ (k : Int) < (n : Int) := by omega
      have HF : Hid (findP l a = -1) := Lib.hid (findIdx_none (fun i y hy => HS.out i y (by have := (List.getElem?_eq_some_iff.1 hy).1; have := HN.out; omega) hy))
      go_wp2_with fail
      go_ret
      exact ⟨ret_int HF.out.symm, hbel⟩
set_option maxHeartbeats 1000000 in
theorem find_any (base0 g : Nat) (st ba : Int) (l : List Pend) (a : Int) (w : World) (h : WtAt w base0 g st ba l) (hl : l.length ≤ 1000000) :
    Calls Try.prog 69 #[.pointer (some ⟨g, 0, none⟩), .int .i64 a] w fun e w' => e = .returned (.int .i64 (findP l a)) ∧ Below w.heap.size w w' := by
  obtain ⟨Al, cl, hr, ho⟩ := h
  have hlt := hr.lt
  have q := (hr.alloc (.cells #[.int .i64 a] 3)).cell
  have C := Lib.hid (pindex_any base0 l Al cl w.heap.size a (w.alloc (.cells #[.int .i64 a] 3)) (ho.alloc _) ((RowAt.new w 3 #[.int .i64 a]).cell 0) (by simp) hl)
  obtain ⟨n, hn⟩ : ∃ n, l.length = n := ⟨_, rfl⟩
  rw [hn] at C q
  clear hr ho hn
  go_enter Try.func69, Try.ntmps69
  go_wp2_with fail
  refine C.out.mono ?_
  rintro e w1 ⟨rfl, hb1⟩
  go_wp2_with fail
  go_ret
  exact ⟨rfl, ((Below.refl _ w).alloc (Nat.le_refl _) _).trans (hb1.mono (by simp))⟩
end Go.Proofs.Ytdmdfpdigoijoaa
