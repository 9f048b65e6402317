/-
  Chapter 24: the reference's Check.
-/
import Derived.Test.YtnomodbcpndocaaSuA
namespace Go.Proofs.Ytnomodbcpndocaa
open Go.RowKit
set_option linter.unusedVariables false

set_option maxHeartbeats 2000000 in
theorem rcheck_any (A : Option Addr) (c : Nat) (l : List Ent) (w : World) (h : EnAt w w.heap.size A l) :
    Calls Try.prog 48 #[.slice A l.length c] w fun e w' => e = .returned (.int .i64 (checkL l)) ∧ w = w' := by
  have HS := Lib.hid h
  obtain ⟨n, hn⟩ : ∃ n, l.length = n := ⟨_, rfl⟩
  have HN := Lib.hid hn
  unfold checkL
  rw [hn]
  clear h hn
  go_enter Try.func48, Try.ntmps48
  by_cases h1 : 1024 < n
  · have h1I : (1024 : Int) < (n : Int) := by omega
    rw [if_pos h1]
    clear h1
    go_wp2_with fail
    go_ret
    exact ⟨rfl, rfl⟩
  · have h1I : ¬ (1024 : Int) < (n : Int) := by omega
    rw [if_neg h1]
    go_wp2_with fail
    go_loop [3] (fun i => ∃ k : Nat, k ≤ n ∧ i = .int .i64 k ∧ Hid (errL (l.take k) = 0)) (fun i => n - (intOf i).toNat)
    case atStart => exact ⟨0, by omega, rfl, Lib.hid rfl⟩
    case round =>
      obtain ⟨k, hk, rfl, hall⟩ := hrel
      by_cases hlt : k < n
      · obtain ⟨x, hx⟩ : ∃ s, l[k]? = some s := ⟨l[k]'(by rw [HN.out]; exact hlt), List.getElem?_eq_getElem _⟩
        obtain ⟨b, off, hA, hbk⟩ := HS.out.one (by rw [HN.out]; omega)
        subst hA
        obtain ⟨p0, p1, p2⟩ := HS.out.cells rfl hx
        have hltI : (k : Int) < (n : Int) := by omega
        have h0k : (0 : Int) ≤ (k : Int) := by omega
        have CS := Lib.hid (fun w => rsig_any x.sg w)
        have HX := Lib.hid hx
        clear hx
        go_wp2_with fail
        refine (CS.out _).mono ?_
        rintro e w2 ⟨rfl, rfl⟩
        clear CS
        by_cases hE : errE x = 0
        · obtain ⟨e1, e2, e3, e4⟩ := errE_zero.1 hE
          have hn1 := Lib.hid (errL_take hall.out HX.out hE)
          rw [e1]
          have f1 : ¬ x.v < 0 := by omega
          have f2 : ¬ 255 < x.v := by omega
          have f3 : ¬ (251 : Int) < (x.d.size : Int) := by omega
          clear e1 e2 e3 e4 hE
          go_wp2_with fail
          go_round
          case rel => first | exact ⟨k + 1, by omega, by go_num, hn1⟩ | exact ⟨_, ⟨k + 1, by omega, by simp, hn1⟩, rfl⟩ | exact ⟨_, _, ⟨k + 1, by omega, by simp, hn1⟩, rfl, rfl⟩
          case measure => simp [intOf]; omega
        · have hn1 := Lib.hid (errL_hit hall.out HX.out hE)
          cases h2 : sigB x.sg with
          | false =>
            have h3 : errE x = 1 := by unfold errE; rw [if_pos h2]
            clear h2 hE
            go_wp2_with fail
            go_ret
            exact ⟨by rw [hn1.out, h3]; rfl, rfl⟩
          | true =>
            by_cases h4 : x.v < 0 ∨ 255 < x.v
            · have h3 := Lib.hid (show errE x = 2 by unfold errE; rw [if_neg (by simp [h2]), if_pos h4])
              by_cases h5 : x.v < 0
              · clear h2 hE h4
                go_wp2_with fail
                go_ret
                exact ⟨by rw [hn1.out, h3.out]; rfl, rfl⟩
              · have h6 : 255 < x.v := by omega
                clear h2 hE h4
                go_wp2_with fail
                go_ret
                exact ⟨by rw [hn1.out, h3.out]; rfl, rfl⟩
            · have h7 : 251 < x.d.size := by
                apply Decidable.byContradiction
                intro h8
                exact hE (errE_zero.2 ⟨h2, by omega, by omega, by omega⟩)
              have h3 := Lib.hid (show errE x = 7 by unfold errE; rw [if_neg (by simp [h2]), if_neg h4, if_pos h7])
              have f1 : ¬ x.v < 0 := by omega
              have f2 : ¬ 255 < x.v := by omega
              have f3 : (251 : Int) < (x.d.size : Int) := by omega
              clear h2 hE h4 h7
              go_wp2_with fail
              go_ret
              exact ⟨by rw [hn1.out, h3.out]; rfl, rfl⟩
      · obtain rfl : k = n := by omega
        rw [List.take_of_length_le (Nat.le_of_eq HN.out)] at hall
        have hge : ¬ (k : Int) < (k : Int) := by omega
        go_wp2_with fail
        go_ret
        exact ⟨by rw [hall.out]; rfl, rfl⟩
end Go.Proofs.Ytnomodbcpndocaa
