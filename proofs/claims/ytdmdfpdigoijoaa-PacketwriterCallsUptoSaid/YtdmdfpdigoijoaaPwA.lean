/-
  Chapter 52: the small functions that only read images and writes.
-/
import Derived.Test.YtdmdfpdigoijoaaPwM
import Derived.BigQuiet
import Derived.Deep.Cut
namespace Go.Proofs.Ytdmdfpdigoijoaa
open Go.RowKit
set_option linter.unusedVariables false

theorem all_snoc {α : Type} {p : α → Bool} {l : List α} {k : Nat} {x : α} (h : l[k]? = some x) : (l.take (k + 1)).all p = ((l.take k).all p && p x) := by
  rw [List.take_add_one, h]
  simp
theorem all_no {α : Type} {p : α → Bool} {l : List α} {k : Nat} {x : α} (h : l[k]? = some x) (hp : p x = false) : l.all p = false := by
  rw [List.all_eq_false]
  exact ⟨x, List.mem_of_getElem? h, by rw [hp]; simp⟩

set_option maxHeartbeats 1000000 in
theorem rsteps_any (A : Option Addr) (c : Nat) (ws : List Wr) (w : World) (h : WrAt w w.heap.size A ws) (hl : ws.length ≤ 1000) (hb : ∀ x ∈ ws, x.bl.length ≤ 10000) :
    Calls Try.prog 13 #[.slice A ws.length c] w fun e w' => e = .returned (.int .i64 (nSt ws : Int)) ∧ w = w' := by
  have HW := Lib.hid h
  have HB := Lib.hid hb
  have HL : Hid (∀ k, nSt (ws.take k) ≤ 10001 * k) := Lib.hid fun k => by
    induction k with
    | zero => simp [nSt, stepsL]
    | succ k ih =>
      rcases Nat.lt_or_ge k ws.length with hk | hk
      · have hx : ws[k]? = some ws[k] := List.getElem?_eq_getElem hk
        have := hb _ (List.mem_of_getElem? hx)
        rw [nSt_take hx]
        split <;> omega
      · rw [List.take_of_length_le (by omega)]
        rw [List.take_of_length_le (by omega)] at ih
        omega
  obtain ⟨n, hn⟩ : ∃ n, ws.length = n := ⟨_, rfl⟩
  have HN := Lib.hid hn
  rw [hn] at hl ⊢
  clear h hb hn
  go_enter Try.func13, Try.ntmps13
  go_wp2_with fail
  go_loop [3, 4] (fun t i => ∃ (k s : Nat), k ≤ n ∧ i = .int .i64 k ∧ t = .int .i64 s ∧ Hid (s = nSt (ws.take k)) ∧ s ≤ 10001 * k) (fun _ i => n - (intOf i).toNat)
  case atStart => exact ⟨0, 0, by omega, rfl, rfl, Lib.hid (by simp [nSt, stepsL]), by omega⟩
  case round =>
    obtain ⟨k, s, hk, rfl, rfl, HS, hs⟩ := hrel
    by_cases hlt : k < n
    · obtain ⟨x, hx⟩ : ∃ x, ws[k]? = some x := ⟨ws[k]'(by rw [HN.out]; exact hlt), List.getElem?_eq_getElem _⟩
      obtain ⟨b, off, hA, hbk⟩ := HW.out.one (by rw [HN.out]; omega)
      subst hA
      obtain ⟨p0, p1, p2, p3⟩ := HW.out.cells rfl hx
      have hxl := HB.out x (List.mem_of_getElem? hx)
      have HST := Lib.hid (nSt_take hx)
      have HL2 := HL.out (k + 1)
      rw [HST.out, ← HS.out] at HL2
      have hltI : (k : Int) < (n : Int) := by omega
      have h0k : (0 : Int) ≤ (k : Int) := by omega
      have hkn : k < 1000 := by omega
      obtain ⟨xp, xA, xc, xb, xs, xcl⟩ := x
      dsimp only at p0 p1 p2 p3 hxl HST HL2
      clear hx HL
      cases xcl with
      | true =>
        go_wp2_with fail
        go_round
        case rel => exact ⟨k + 1, s + (xb.length + 1), by omega, by go_num, by go_num, Lib.hid (by rw [HST.out, HS.out]; rfl), by simp at HL2; omega⟩
        case measure => simp [intOf]; omega
      | false =>
        go_wp2_with fail
        go_round
        case rel => exact ⟨k + 1, s + xb.length, by omega, by go_num, by go_num, Lib.hid (by rw [HST.out, HS.out]; rfl), by simp at HL2; omega⟩
        case measure => simp [intOf]; omega
    · obtain rfl : k = n := by omega
      have hge : ¬ (k : Int) < (k : Int) := by omega
      go_wp2_with fail
      go_ret
      exact ⟨ret_int (by rw [HS.out, List.take_of_length_le (by rw [HN.out]; omega)]), rfl⟩

def fewB (img : Img) (ws : List Wr) : Bool := decide (img.length ≤ 600) && (decide (ws.length ≤ 30) && ws.all fun x => decide (x.bl.length ≤ 40))
set_option maxHeartbeats 1000000 in
theorem few_any (A A' : Option Addr) (c c' : Nat) (img : Img) (ws : List Wr) (w : World) (h : WrAt w w.heap.size A' ws) :
    Calls Try.prog 12 #[.slice A img.length c, .slice A' ws.length c'] w fun e w' => e = .returned (.bool (fewB img ws)) ∧ w = w' := by
  have HW := Lib.hid h
  obtain ⟨n, hn⟩ : ∃ n, ws.length = n := ⟨_, rfl⟩
  obtain ⟨m, hm⟩ : ∃ m, img.length = m := ⟨_, rfl⟩
  have HF : Hid (fewB img ws = (decide (m ≤ 600) && (decide (n ≤ 30) && ws.all fun x => decide (x.bl.length ≤ 40)))) := Lib.hid (by unfold fewB; rw [hn, hm])
  have HN := Lib.hid hn
  rw [hn, hm, HF.out]
  clear h hn hm HF
  by_cases h6 : m ≤ 600
  · have h6I : ¬ (600 : Int) < (m : Int) := by omega
    have h6d : decide (m ≤ 600) = true := decide_eq_true h6
    rw [h6d]
    by_cases h3 : n ≤ 30
    · have h3I : ¬ (30 : Int) < (n : Int) := by omega
      have h3d : decide (n ≤ 30) = true := decide_eq_true h3
      rw [h3d]
      clear h6d h3d
      go_enter Try.func12, Try.ntmps12
      go_wp2_with fail
      go_loop [5] (fun i => ∃ k : Nat, k ≤ n ∧ i = .int .i64 k ∧ Hid ((ws.take k).all (fun x => decide (x.bl.length ≤ 40)) = true)) (fun i => n - (intOf i).toNat)
      case atStart => exact ⟨0, by omega, rfl, Lib.hid (by simp)⟩
      case round =>
        obtain ⟨k, hk, rfl, HS⟩ := hrel
        by_cases hlt : k < n
        · obtain ⟨x, hx⟩ : ∃ x, ws[k]? = some x := ⟨ws[k]'(by rw [HN.out]; exact hlt), List.getElem?_eq_getElem _⟩
          obtain ⟨b, off, hA, hbk⟩ := HW.out.one (by rw [HN.out]; omega)
          subst hA
          obtain ⟨p0, p1, p2, p3⟩ := HW.out.cells rfl hx
          have hltI : (k : Int) < (n : Int) := by omega
          have h0k : (0 : Int) ≤ (k : Int) := by omega
          obtain ⟨xp, xA, xc, xb, xs, xcl⟩ := x
          dsimp only at p0 p1 p2 p3
          by_cases h4 : xb.length ≤ 40
          · have h4I : ¬ (40 : Int) < (xb.length : Int) := by omega
            have HS1 := Lib.hid (all_snoc (p := fun x : Wr => decide (x.bl.length ≤ 40)) hx)
            clear hx
            go_wp2_with fail
            go_round
            case rel => exact ⟨k + 1, by omega, by go_num, Lib.hid (by rw [HS1.out, HS.out]; exact decide_eq_true h4)⟩
            case measure => simp [intOf]; omega
          · have h4I : (40 : Int) < (xb.length : Int) := by omega
            have HNO := Lib.hid (all_no (p := fun x : Wr => decide (x.bl.length ≤ 40)) hx (decide_eq_false h4))
            clear hx
            go_wp2_with fail
            go_ret
            exact ⟨ret_bool (by rw [HNO.out]), rfl⟩
        · obtain rfl : k = n := by omega
          have hge : ¬ (k : Int) < (k : Int) := by omega
          have HS1 : Hid (ws.all (fun x => decide (x.bl.length ≤ 40)) = true) := Lib.hid (by have := HS.out; rwa [List.take_of_length_le (by rw [HN.out]; omega)] at this)
          go_wp2_with fail
          go_ret
          exact ⟨ret_bool (by rw [HS1.out]), rfl⟩
    · have h3I : (30 : Int) < (n : Int) := by omega
      have h3d : decide (n ≤ 30) = false := decide_eq_false h3
      rw [h3d]
      clear h3 h3d h6d
      go_enter Try.func12, Try.ntmps12
      go_wp2_with fail
      go_ret
      exact ⟨rfl, rfl⟩
  · have h6I : (600 : Int) < (m : Int) := by omega
    have h6d : decide (m ≤ 600) = false := decide_eq_false h6
    rw [h6d]
    clear h6 h6d
    go_enter Try.func12, Try.ntmps12
    go_wp2_with fail
    go_ret
    exact ⟨rfl, rfl⟩
end Go.Proofs.Ytdmdfpdigoijoaa
