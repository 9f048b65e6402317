/-
  Equal lists of sectors and of packets compare as equal.
-/
import Derived.Test.YticmopgpfplbnaaSame
import Derived.Deep.RegionWith
namespace Go.Proofs.Yticmopgpfplbnaa
open Go.RowKit
set_option linter.unusedVariables false

def encS (x : Sec) : List Value := [.int .i64 x.lba, .int .i64 x.mode, .int .i64 x.fi, .int .i64 x.ch, .int .i64 x.su, .int .i64 x.co, .string x.data]
theorem encS_length (x : Sec) : (encS x).length = 7 := rfl
theorem flatS_get {l : List Sec} {k j : Nat} {x : Sec} (hk : l[k]? = some x) (hj : j < 7) : (flat encS l)[k * 7 + j]? = (encS x)[j]? := flat_get encS_length l k j x hk hj

/-- The seven cells of an element. -/
theorem sec_cells {w : World} {B : Nat} {A : Option Addr} {l : List Sec} (h : SlAt w B A (flat encS l)) {b off : Nat} (hA : A = some ⟨b, off, none⟩) {k : Nat} {x : Sec} (hk : l[k]? = some x) :
    w.cell? ⟨b, off + k * 7, none⟩ = some (.int .i64 x.lba) ∧ w.cell? ⟨b, off + k * 7 + 1, none⟩ = some (.int .i64 x.mode) ∧ w.cell? ⟨b, off + k * 7 + 2, none⟩ = some (.int .i64 x.fi) ∧ w.cell? ⟨b, off + k * 7 + 3, none⟩ = some (.int .i64 x.ch) ∧
      w.cell? ⟨b, off + k * 7 + 4, none⟩ = some (.int .i64 x.su) ∧ w.cell? ⟨b, off + k * 7 + 5, none⟩ = some (.int .i64 x.co) ∧ w.cell? ⟨b, off + k * 7 + 6, none⟩ = some (.string x.data) := by
  have c : ∀ j, j < 7 → ∀ u, (encS x)[j]? = some u → w.cell? ⟨b, off + (k * 7 + j), none⟩ = some u := fun j hj u hu => sl_cell h hA ((flatS_get hk hj).trans hu)
  refine ⟨c 0 (by omega) _ rfl, ?_, ?_, ?_, ?_, ?_, ?_⟩
  · rw [Nat.add_assoc]; exact c 1 (by omega) _ rfl
  · rw [Nat.add_assoc]; exact c 2 (by omega) _ rfl
  · rw [Nat.add_assoc]; exact c 3 (by omega) _ rfl
  · rw [Nat.add_assoc]; exact c 4 (by omega) _ rfl
  · rw [Nat.add_assoc]; exact c 5 (by omega) _ rfl
  · rw [Nat.add_assoc]; exact c 6 (by omega) _ rfl

set_option maxHeartbeats 1000000 in
theorem sectors_same (A A' : Option Addr) (c c' : Nat) (l : List Sec) (w : World) (h : SlAt w w.heap.size A (flat encS l)) (h' : SlAt w w.heap.size A' (flat encS l)) (hl : l.length ≤ 1000000) :
    Calls Try.prog 26 #[.slice A l.length c, .slice A' l.length c'] w fun e w' => e = .returned (.bool true) ∧ Below w.heap.size w w' := by
  by_cases h0 : 0 < l.length
  · have hf : 0 < (flat encS l).length := by rw [flat_length encS_length]; omega
    obtain ⟨b, off, hA, hb, hc⟩ := h.one hf
    obtain ⟨b', off', hA', hb', hc'⟩ := h'.one hf
    obtain ⟨n, hn⟩ : ∃ n, l.length = n := ⟨_, rfl⟩
    have HN := Lib.hid hn
    have HC := Lib.hid h
    have HC' := Lib.hid h'
    subst hA hA'
    rw [hn] at hl h0 ⊢
    clear hc hc' h h' hn hf
    go_enter Try.func26, Try.ntmps26
    go_wp2_with fail
    go_loopw [5] (fun i wr => ∃ k : Nat, k ≤ n ∧ i = .int .i64 k ∧ Below w.heap.size w wr) (fun i _ => n - (intOf i).toNat)
    case atStart => exact ⟨0, by omega, rfl, Below.refl _ _⟩
    case round =>
      obtain ⟨k, hk, rfl, hbel⟩ := hrel
      by_cases hlt : k < n
      · obtain ⟨s, hs⟩ : ∃ s, l[k]? = some s := ⟨l[k]'(by rw [HN.out]; exact hlt), List.getElem?_eq_getElem _⟩
        obtain ⟨p0, p1, p2, p3, p4, p5, p6⟩ := sec_cells (HC.out.below hbel) rfl hs
        obtain ⟨q0, q1, q2, q3, q4, q5, q6⟩ := sec_cells (HC'.out.below hbel) rfl hs
        have hltI : (k : Int) < (n : Int) := by omega
        have h0k : (0 : Int) ≤ (k : Int) := by omega
        clear hs
        go_wp2_with fail
        go_quiet (fail)
        go_wp2_with fail
        go_roundw
        case rel => first | exact ⟨k + 1, by omega, by go_num, below_drewN hbel _⟩ | exact ⟨_, _, _, ⟨k + 1, by omega, by simp, below_drewN hbel _⟩, rfl, rfl, rfl⟩
        case measure => simp [intOf]; omega
      · have hge : ¬ (k : Int) < (n : Int) := by omega
        go_wp2_with fail
        go_ret
        exact ⟨rfl, hbel⟩
  · obtain rfl : l = [] := List.eq_nil_of_length_eq_zero (by omega)
    rw [List.length_nil]
    clear h h' hl h0
    go_enter Try.func26, Try.ntmps26
    go_wp2_with fail
    go_rounds 1
    go_ret
    exact ⟨rfl, Below.refl _ _⟩

/-- The values hs are slices of strings that read as the lists ll. -/
def Slices (w : World) (B : Nat) (hs : List Value) (ll : List (List ByteArray)) : Prop :=
  hs.length = ll.length ∧ ∀ (i : Nat) l, ll[i]? = some l → ∃ A c, hs[i]? = some (.slice A l.length c) ∧ SlAt w B A (l.map Value.string)
theorem Slices.below {w w' : World} {B : Nat} {hs : List Value} {ll : List (List ByteArray)} (h : Slices w B hs ll) (hb : Below B w w') : Slices w' B hs ll := ⟨h.1, fun i l hl => by
  obtain ⟨A, c, e, hs⟩ := h.2 i l hl
  exact ⟨A, c, e, hs.below hb⟩⟩
theorem Slices.mono {w : World} {B C : Nat} {hs : List Value} {ll : List (List ByteArray)} (h : Slices w B hs ll) (hB : B ≤ C) : Slices w C hs ll := ⟨h.1, fun i l hl => by
  obtain ⟨A, c, e, hs⟩ := h.2 i l hl
  exact ⟨A, c, e, hs.mono hB⟩⟩
/-- A row of the call's own is a slice, nil let in. -/
theorem Inner.slice {w : World} {base G e : Nat} {v : Value} {xs : List Value} (h : Inner w base G e v xs) : ∃ A c, v = .slice A xs.length c ∧ SlAt w G A xs := by
  by_cases h0 : 0 < xs.length
  · obtain ⟨g, cap, rfl, _, hlt, _⟩ := own_form h.1 h0
    exact ⟨_, _, rfl, SlAt.of_own h.1 (h.2 g rfl)⟩
  · have hx : xs = [] := List.eq_nil_of_length_eq_zero (by omega)
    subst hx
    rcases h.1.2 with ⟨rfl, _⟩ | ⟨g, cap, cur, rfl, _⟩
    · exact ⟨none, 0, rfl, SlAt.nil _ _ _⟩
    · exact ⟨_, cap, rfl, SlAt.nil _ _ _⟩
theorem RowsOf.slices {w : World} {base G e : Nat} {hs : List Value} {ll : List (List ByteArray)} (h : RowsOf w base G e hs (ll.map fun l => l.map Value.string)) : Slices w G hs ll :=
  ⟨by rw [h.1, List.length_map], fun i l hl => by
    obtain ⟨v, hv, hi⟩ := h.2 i (l.map Value.string) (by rw [List.getElem?_map, hl]; rfl)
    obtain ⟨A, c, rfl, hA⟩ := hi.slice
    exact ⟨A, c, by rw [hv, List.length_map], hA⟩⟩

set_option maxHeartbeats 1000000 in
theorem packets_same (A A' : Option Addr) (c c' : Nat) (hs hs' : List Value) (ll : List (List ByteArray)) (w : World) (h : SlAt w w.heap.size A hs) (h' : SlAt w w.heap.size A' hs') (hS : Slices w w.heap.size hs ll) (hS' : Slices w w.heap.size hs' ll) (hl : ll.length ≤ 1000000) (hl2 : ∀ l ∈ ll, l.length ≤ 1000000) :
    Calls Try.prog 25 #[.slice A ll.length c, .slice A' ll.length c'] w fun e w' => e = .returned (.bool true) ∧ Below w.heap.size w w' := by
  by_cases h0 : 0 < ll.length
  · obtain ⟨b, off, hA, hb, hc⟩ := h.one (by rw [hS.1]; exact h0)
    obtain ⟨b', off', hA', hb', hc'⟩ := h'.one (by rw [hS'.1]; exact h0)
    obtain ⟨n, hn⟩ : ∃ n, ll.length = n := ⟨_, rfl⟩
    have HN := Lib.hid hn
    have HC := Lib.hid hc
    have HC' := Lib.hid hc'
    have HL := Lib.hid hl2
    subst hA hA'
    rw [hn] at hl h0 ⊢
    clear hc hc' h h' hn hl2
    go_enter Try.func25, Try.ntmps25
    go_wp2_with fail
    go_loopw [5] (fun i wr => ∃ k : Nat, k ≤ n ∧ i = .int .i64 k ∧ Below w.heap.size w wr) (fun i _ => n - (intOf i).toNat)
    case atStart => exact ⟨0, by omega, rfl, Below.refl _ _⟩
    case round =>
      obtain ⟨k, hk, rfl, hbel⟩ := hrel
      by_cases hlt : k < n
      · obtain ⟨s, hs1⟩ : ∃ s, ll[k]? = some s := ⟨ll[k]'(by rw [HN.out]; exact hlt), List.getElem?_eq_getElem _⟩
        obtain ⟨P, cp, e1, hP⟩ := hS.2 k s hs1
        obtain ⟨Q, cq, e2, hQ⟩ := hS'.2 k s hs1
        have g1 := (hbel.cell (p := ⟨b, off + k, none⟩) hb).trans (HC.out k _ e1)
        have g2 := (hbel.cell (p := ⟨b', off' + k, none⟩) hb').trans (HC'.out k _ e2)
        have hltI : (k : Int) < (n : Int) := by omega
        have h0k : (0 : Int) ≤ (k : Int) := by omega
        have hsl := HL.out s (List.mem_of_getElem? hs1)
        have hP' := (hP.below hbel).mono hbel.size
        have hQ' := (hQ.below hbel).mono hbel.size
        have C := Lib.hid (strings_same P Q cp cq s wr.drew hP' hQ' hsl)
        clear hs1 hP hQ e1 e2
        go_wp2_with fail
        go_region_with ((go_at_call 27; refine C.out.mono ?_; rintro e w2 ⟨rfl, hb2⟩))
        all_goals
          go_wp2_with fail
          go_roundw
          case rel => first | exact ⟨k + 1, by omega, by go_num, hbel.drew.trans (hb2.mono hbel.drew.size)⟩ | exact ⟨_, _, _, ⟨k + 1, by omega, by simp, hbel.drew.trans (hb2.mono hbel.drew.size)⟩, rfl, rfl, rfl⟩
          case measure => simp [intOf]; omega
      · have hge : ¬ (k : Int) < (n : Int) := by omega
        go_wp2_with fail
        go_ret
        exact ⟨rfl, hbel⟩
  · obtain rfl : ll = [] := List.eq_nil_of_length_eq_zero (by omega)
    rw [List.length_nil]
    clear h h' hl h0 hS hS' hl2
    go_enter Try.func25, Try.ntmps25
    go_wp2_with fail
    go_rounds 1
    go_ret
    exact ⟨rfl, Below.refl _ _⟩
end Go.Proofs.Yticmopgpfplbnaa
