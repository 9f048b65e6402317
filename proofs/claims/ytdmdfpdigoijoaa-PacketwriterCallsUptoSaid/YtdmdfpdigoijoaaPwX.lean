/-
  Chapter 52: the writer: assign.
-/
import Derived.Test.YtdmdfpdigoijoaaPwW
namespace Go.Proofs.Ytdmdfpdigoijoaa
open Go.RowKit
set_option linter.unusedVariables false

/-- The next n addresses; f rounds at most. -/
def asgR (s : Int) (n : Nat) : Nat → Int → List Int → Option (List Int)
  | 0, _, _ => none
  | f + 1, k, out => if n ≤ out.length then some out else if 4096 < k - (k - s) % 8 + 8 then none else asgR s n f (k + 1) (if usB s k then out ++ [k] else out)
def nextL (ba : Int) (l : List Pend) : Int := match l.getLast? with | some x => x.lba + 1 | none => ba
def asgL (st ba : Int) (l : List Pend) (n : Nat) : Option (List Int) := asgR st n 5000 (nextL ba l) []
def intV (l : List Int) : List Value := l.map fun n => .int .i64 n
theorem intV_length (l : List Int) : (intV l).length = l.length := by simp [intV]
def AsgRes (R : Option (List Int)) (w : World) (e : Ending) (w' : World) : Prop :=
  Below w.heap.size w w' ∧ ((R = none ∧ e = .returned (.tuple #[.slice none 0 0, .bool false])) ∨ ∃ out A c, R = some out ∧ e = .returned (.tuple #[.slice A out.length c, .bool true]) ∧ w'.ownsRow w.heap.size 3 1 (.slice A out.length c) out.length (intV out))
theorem info_int : (Try.prog.info? 3).map (fun i => (i.zero, i.size, i.bytes)) = some (some (.int .i64 0), 1, 8) := by kernel_rfl

set_option maxHeartbeats 2000000 in
theorem assign_any (base0 g : Nat) (st ba : Int) (l : List Pend) (n : Nat) (w : World) (h : WtAt w base0 g st ba l) (hl : l.length ≤ 1000000) (hn : n ≤ 1000000) (hst : 0 ≤ st) (h1 : st ≤ nextL ba l) (h2 : nextL ba l ≤ 4200) :
    Calls Try.prog 65 #[.pointer (some ⟨g, 0, none⟩), .int .i64 (n : Int)] w (AsgRes (asgL st ba l n) w) := by
  obtain ⟨A, c, hr, ho⟩ := h
  have q := hr.cell
  have HQ := Lib.hid hr
  obtain ⟨m, hm⟩ : ∃ m, l.length = m := ⟨_, rfl⟩
  have hloop : ∀ (k0 : Int), nextL ba l = k0 → True := fun _ _ => trivial
  obtain ⟨k0, hk0⟩ : ∃ k0, nextL ba l = k0 := ⟨_, rfl⟩
  have HR : Hid (asgL st ba l n = asgR st n 5000 k0 []) := Lib.hid (by unfold asgL; rw [hk0])
  rw [HR.out]
  rw [hk0] at h1 h2
  have HSTART : (m = 0 ∧ ba = k0) ∨ (0 < m ∧ ∃ gl, A = some ⟨gl, 0, none⟩ ∧ w.cell? ⟨gl, (m - 1) * 2, none⟩ = some (.int .i64 (k0 - 1))) := by
    rcases Nat.eq_zero_or_pos m with h0 | h0
    · left
      refine ⟨h0, ?_⟩
      obtain rfl : l = [] := List.eq_nil_of_length_eq_zero (by omega)
      exact hk0
    · right
      obtain ⟨x, hx⟩ : ∃ x, l[m - 1]? = some x := ⟨l[m - 1]'(by omega), List.getElem?_eq_getElem _⟩
      obtain ⟨gl, cap, hv, _, _, _⟩ := own_form ho (by omega)
      injection hv with hA _ hc
      subst hA
      refine ⟨h0, gl, rfl, ?_⟩
      have := (lastL_cells ho hx).1
      rw [this]
      unfold nextL at hk0
      rw [List.getLast?_eq_getElem?, hm, hx] at hk0
      dsimp only at hk0
      rw [← hk0, Int.add_sub_cancel]
  rw [hm] at q hl HQ
  clear ho hr hm hk0 HR hloop
  rcases HSTART with ⟨h0, rfl⟩ | ⟨h0, gl, rfl, p0⟩
  · have h0I : ¬ (0 : Int) < (m : Int) := by omega
    have HM := Lib.hid h0
    clear h0
    go_enter Try.func65, Try.ntmps65
    go_wp2_with fail
    go_loopw [6, 8] (fun kv v wr => ∃ (k : Int) (f : Nat) (out : List Int) (A1 : Option Addr) (c1 L : Nat), Hid (L = out.length ∧ asgR st n 5000 ba [] = asgR st n f k out) ∧ (f : Int) + k ≥ 4990 ∧ st ≤ k ∧ k ≤ 4200 ∧ L ≤ 200000 ∧ kv = .int .i64 k ∧ v = .slice A1 L c1 ∧ wr.ownsRow w.heap.size 3 1 (.slice A1 L c1) L (intV out) ∧ Below w.heap.size w wr ∧ (L : Int) ≤ k + 10) (fun kv _ _ => (100002 - intOf kv).toNat)
    case atStart => exact ⟨ba, 5000, [], none, 0, 0, Lib.hid ⟨rfl, rfl⟩, by omega, h1, by omega, by omega, rfl, rfl, World.ownsRow_nil _ _ _ _, Below.refl _ _, by omega⟩
    case round =>
      obtain ⟨k, f, out, A1, c1, L, HF, hf, hk1, hk2, hL, rfl, rfl, hown, hbel, hLk⟩ := hrel
      have q1 := (HQ.out.below hbel HQ.out.lt).cell
      have em : (k - st).tmod 8 = (k - st) % 8 := Int.tmod_eq_emod_of_nonneg (by omega)
      by_cases hLn : L < n
      · have hLnI : (L : Int) < (n : Int) := by omega
        by_cases hpk : 4096 < k - (k - st) % 8 + 8
        · have HNO : Hid (asgR st n 5000 ba [] = none) := Lib.hid (by
            rw [HF.out.2]
            cases f with
            | zero => rfl
            | succ f => rw [asgR, if_neg (by have := HF.out.1; omega), if_pos hpk])
          go_wp2_with fail
          go_ret2
          exact ⟨hbel, .inl ⟨HNO.out, rfl⟩⟩
        · obtain ⟨f1, rfl⟩ : ∃ f1, f = f1 + 1 := ⟨f - 1, by omega⟩
          have HN : Hid (asgR st n 5000 ba [] = asgR st n f1 (k + 1) (if usB st k then out ++ [k] else out)) := Lib.hid (by
            rw [HF.out.2, asgR, if_neg (by have := HF.out.1; omega), if_neg hpk])
          have CU := Lib.hid (fun w => usable_any st k w (by omega) (by omega))
          cases hus : usB st k with
          | true =>
            rw [hus] at CU
            have HN2 : Hid (asgR st n 5000 ba [] = asgR st n f1 (k + 1) (out ++ [k])) := Lib.hid (by rw [HN.out, hus, if_pos rfl])
            clear hus HN
            go_wp2_with fail
            refine (CU.out _).mono ?_
            rintro e w' ⟨rfl, rfl⟩
            go_wp2_with (at_builtin; refine wpList_app1 hown info_int Try.underlying38 rfl (by unfold maxLen; omega) (by omega) hbel.size rfl rfl rfl (by rfl) (by rfl) ?_; intro v1 w2 hown2 hb2 _; obtain ⟨A2, c2, hv2⟩ := own_slice hown2; subst hv2)
            go_roundw
            case rel =>
              refine ⟨k + 1, f1, out ++ [k], A2, c2, L + 1, Lib.hid ⟨by rw [List.length_append, ← HF.out.1]; rfl, HN2.out⟩, by omega, by omega, by omega, by omega, rfl, rfl, ?_, hbel.trans hb2, by omega⟩
              unfold intV at hown2 ⊢
              rw [List.map_append]
              exact hown2
            case measure => simp [intOf]; omega
          | false =>
            rw [hus] at CU
            have HN2 : Hid (asgR st n 5000 ba [] = asgR st n f1 (k + 1) out) := Lib.hid (by rw [HN.out, hus, if_neg (by simp)])
            clear hus HN
            go_wp2_with fail
            refine (CU.out _).mono ?_
            rintro e w' ⟨rfl, rfl⟩
            go_wp2_with fail
            go_roundw
            case rel => exact ⟨k + 1, f1, out, A1, c1, L, Lib.hid ⟨HF.out.1, HN2.out⟩, by omega, by omega, by omega, by omega, rfl, rfl, hown, hbel, by omega⟩
            case measure => simp [intOf]; omega
      · have hLnI : ¬ (L : Int) < (n : Int) := by omega
        have HYES : Hid (asgR st n 5000 ba [] = some out) := Lib.hid (by
          obtain ⟨f1, rfl⟩ : ∃ f1, f = f1 + 1 := ⟨f - 1, by omega⟩
          rw [HF.out.2, asgR, if_pos (by have := HF.out.1; omega)])
        have HLE := Lib.hid HF.out.1
        go_wp2_with fail
        go_ret2
        have hL2 := HLE.out
        subst hL2
        exact ⟨hbel, .inr ⟨out, A1, c1, HYES.out, rfl, hown⟩⟩
  · have h0I : (0 : Int) < (m : Int) := by omega
    have h0a : (0 : Int) ≤ (m : Int) - 1 := by omega
    have e1 : ((m : Int) - 1).toNat = m - 1 := by omega
    have e2 : k0 - 1 + 1 = k0 := by omega
    have hd : decide (0 < m) = true := decide_eq_true h0
    clear h0
    go_enter Try.func65, Try.ntmps65
    go_wp2_with fail
    go_loopw [6, 8] (fun kv v wr => ∃ (k : Int) (f : Nat) (out : List Int) (A1 : Option Addr) (c1 L : Nat), Hid (L = out.length ∧ asgR st n 5000 k0 [] = asgR st n f k out) ∧ (f : Int) + k ≥ 4990 ∧ st ≤ k ∧ k ≤ 4200 ∧ L ≤ 200000 ∧ kv = .int .i64 k ∧ v = .slice A1 L c1 ∧ wr.ownsRow w.heap.size 3 1 (.slice A1 L c1) L (intV out) ∧ Below w.heap.size w wr ∧ (L : Int) ≤ k + 10) (fun kv _ _ => (100002 - intOf kv).toNat)
    case atStart => exact ⟨k0, 5000, [], none, 0, 0, Lib.hid ⟨rfl, rfl⟩, by omega, h1, by omega, by omega, rfl, rfl, World.ownsRow_nil _ _ _ _, Below.refl _ _, by omega⟩
    case round =>
      obtain ⟨k, f, out, A1, c1, L, HF, hf, hk1, hk2, hL, rfl, rfl, hown, hbel, hLk⟩ := hrel
      have q1 := (HQ.out.below hbel HQ.out.lt).cell
      have em : (k - st).tmod 8 = (k - st) % 8 := Int.tmod_eq_emod_of_nonneg (by omega)
      by_cases hLn : L < n
      · have hLnI : (L : Int) < (n : Int) := by omega
        by_cases hpk : 4096 < k - (k - st) % 8 + 8
        · have HNO : Hid (asgR st n 5000 k0 [] = none) := Lib.hid (by
            rw [HF.out.2]
            cases f with
            | zero => rfl
            | succ f => rw [asgR, if_neg (by have := HF.out.1; omega), if_pos hpk])
          go_wp2_with fail
          go_ret2
          exact ⟨hbel, .inl ⟨HNO.out, rfl⟩⟩
        · obtain ⟨f1, rfl⟩ : ∃ f1, f = f1 + 1 := ⟨f - 1, by omega⟩
          have HN : Hid (asgR st n 5000 k0 [] = asgR st n f1 (k + 1) (if usB st k then out ++ [k] else out)) := Lib.hid (by
            rw [HF.out.2, asgR, if_neg (by have := HF.out.1; omega), if_neg hpk])
          have CU := Lib.hid (fun w => usable_any st k w (by omega) (by omega))
          cases hus : usB st k with
          | true =>
            rw [hus] at CU
            have HN2 : Hid (asgR st n 5000 k0 [] = asgR st n f1 (k + 1) (out ++ [k])) := Lib.hid (by rw [HN.out, hus, if_pos rfl])
            clear hus HN
            go_wp2_with fail
            refine (CU.out _).mono ?_
            rintro e w' ⟨rfl, rfl⟩
            go_wp2_with (at_builtin; refine wpList_app1 hown info_int Try.underlying38 rfl (by unfold maxLen; omega) (by omega) hbel.size rfl rfl rfl (by rfl) (by rfl) ?_; intro v1 w2 hown2 hb2 _; obtain ⟨A2, c2, hv2⟩ := own_slice hown2; subst hv2)
            go_roundw
            case rel =>
              refine ⟨k + 1, f1, out ++ [k], A2, c2, L + 1, Lib.hid ⟨by rw [List.length_append, ← HF.out.1]; rfl, HN2.out⟩, by omega, by omega, by omega, by omega, rfl, rfl, ?_, hbel.trans hb2, by omega⟩
              unfold intV at hown2 ⊢
              rw [List.map_append]
              exact hown2
            case measure => simp [intOf]; omega
          | false =>
            rw [hus] at CU
            have HN2 : Hid (asgR st n 5000 k0 [] = asgR st n f1 (k + 1) out) := Lib.hid (by rw [HN.out, hus, if_neg (by simp)])
            clear hus HN
            go_wp2_with fail
            refine (CU.out _).mono ?_
            rintro e w' ⟨rfl, rfl⟩
            go_wp2_with fail
            go_roundw
            case rel => exact ⟨k + 1, f1, out, A1, c1, L, Lib.hid ⟨HF.out.1, HN2.out⟩, by omega, by omega, by omega, by omega, rfl, rfl, hown, hbel, by omega⟩
            case measure => simp [intOf]; omega
      · have hLnI : ¬ (L : Int) < (n : Int) := by omega
        have HYES : Hid (asgR st n 5000 k0 [] = some out) := Lib.hid (by
          obtain ⟨f1, rfl⟩ : ∃ f1, f = f1 + 1 := ⟨f - 1, by omega⟩
          rw [HF.out.2, asgR, if_pos (by have := HF.out.1; omega)])
        have HLE := Lib.hid HF.out.1
        go_wp2_with fail
        go_ret2
        have hL2 := HLE.out
        subst hL2
        exact ⟨hbel, .inr ⟨out, A1, c1, HYES.out, rfl, hown⟩⟩
end Go.Proofs.Ytdmdfpdigoijoaa
