/-
  Chapter 52: equal slices compare as equal (slices.Equal).
-/
import Derived.Test.YtdmdfpdigoijoaaPwN
namespace Go.Proofs.Ytdmdfpdigoijoaa
open Go.RowKit
set_option linter.unusedVariables false

theorem SlAt.int {w : World} {B : Nat} {A : Option Addr} {l : List Int} (h : SlAt w B A (intV l)) {b off : Nat} (hA : A = some ⟨b, off, none⟩) {k : Nat} {n : Int} (hk : l[k]? = some n) : w.cell? ⟨b, off + k, none⟩ = some (.int .i64 n) := by
  obtain ⟨b', off', e, _, hc⟩ := h k (.int .i64 n) (by simp [intV, hk])
  rw [hA] at e
  injection e with e
  injection e with e1 e2 _
  subst e1 e2
  exact hc
theorem SlAt.intAddr {w : World} {B : Nat} {A : Option Addr} {l : List Int} (h : SlAt w B A (intV l)) (hp : 0 < l.length) : ∃ b off, A = some ⟨b, off, none⟩ ∧ b < B := by
  obtain ⟨b, off, hA, hb, _⟩ := h.one (by simpa [intV] using hp)
  exact ⟨b, off, hA, hb⟩
set_option maxHeartbeats 1000000 in
theorem eqints_same (A A' : Option Addr) (c c' : Nat) (l : List Int) (w : World) (h : SlAt w w.heap.size A (intV l)) (h' : SlAt w w.heap.size A' (intV l)) (hl : l.length ≤ 1000000) :
    Calls Try.prog 38 #[.slice A l.length c, .slice A' l.length c'] w fun e w' => e = .returned (.bool true) ∧ Below w.heap.size w w' := by
  have HS := Lib.hid h
  have HS' := Lib.hid h'
  obtain ⟨n, hn⟩ : ∃ n, l.length = n := ⟨_, rfl⟩
  have HN := Lib.hid hn
  rw [hn] at hl ⊢
  clear h h' hn
  go_enter Try.func38, Try.ntmps38
  go_wp2_with fail
  go_loopw [13] (fun i wr => ∃ k : Nat, k ≤ n ∧ i = .int .i64 k ∧ Below w.heap.size w wr) (fun i _ => n - (intOf i).toNat)
  case atStart => exact ⟨0, by omega, rfl, Below.refl _ _⟩
  case round =>
    obtain ⟨k, hk, rfl, hbel⟩ := hrel
    by_cases hlt : k < n
    · obtain ⟨s, hs⟩ : ∃ s, l[k]? = some s := ⟨l[k]'(by rw [HN.out]; exact hlt), List.getElem?_eq_getElem _⟩
      obtain ⟨b, off, hA, hbk⟩ := HS.out.intAddr (by rw [HN.out]; omega)
      obtain ⟨b', off', hA', hbk'⟩ := HS'.out.intAddr (by rw [HN.out]; omega)
      subst hA hA'
      have p0 := (HS.out.below hbel).int rfl hs
      have q0 := (HS'.out.below hbel).int rfl hs
      have hltI : (k : Int) < (n : Int) := by omega
      have h0k : (0 : Int) ≤ (k : Int) := by omega
      clear hs
      go_wp2_with fail
      go_quiet (fail)
      go_wp2_with fail
      go_roundw
      case rel => first | exact ⟨k + 1, by omega, by go_num, below_drewN hbel _⟩ | exact ⟨_, ⟨k + 1, by omega, by simp, below_drewN hbel _⟩, rfl⟩ | exact ⟨_, _, ⟨k + 1, by omega, by simp, below_drewN hbel _⟩, rfl, rfl⟩ | exact ⟨_, _, _, ⟨k + 1, by omega, by simp, below_drewN hbel _⟩, rfl, rfl, rfl⟩
      case measure => simp [intOf]; omega
    · have hge : ¬ (k : Int) < (n : Int) := by omega
      go_wp2_with fail
      go_ret
      exact ⟨rfl, hbel⟩
set_option maxHeartbeats 1000000 in
theorem eqimg_same (A A' : Option Addr) (c c' : Nat) (l : Img) (w : World) (h : SlAt w w.heap.size A (strV l)) (h' : SlAt w w.heap.size A' (strV l)) (hl : l.length ≤ 1000000) :
    Calls Try.prog 30 #[.slice A l.length c, .slice A' l.length c'] w fun e w' => e = .returned (.bool true) ∧ Below w.heap.size w w' := by
  have HS := Lib.hid h
  have HS' := Lib.hid h'
  obtain ⟨n, hn⟩ : ∃ n, l.length = n := ⟨_, rfl⟩
  have HN := Lib.hid hn
  rw [hn] at hl ⊢
  clear h h' hn
  go_enter Try.func30, Try.ntmps30
  go_wp2_with fail
  go_loopw [13] (fun i wr => ∃ k : Nat, k ≤ n ∧ i = .int .i64 k ∧ Below w.heap.size w wr) (fun i _ => n - (intOf i).toNat)
  case atStart => exact ⟨0, by omega, rfl, Below.refl _ _⟩
  case round =>
    obtain ⟨k, hk, rfl, hbel⟩ := hrel
    by_cases hlt : k < n
    · obtain ⟨s, hs⟩ : ∃ s, l[k]? = some s := ⟨l[k]'(by rw [HN.out]; exact hlt), List.getElem?_eq_getElem _⟩
      obtain ⟨b, off, hA, hbk⟩ := HS.out.strAddr (by rw [HN.out]; omega)
      obtain ⟨b', off', hA', hbk'⟩ := HS'.out.strAddr (by rw [HN.out]; omega)
      subst hA hA'
      have p0 := (HS.out.below hbel).str rfl hs
      have q0 := (HS'.out.below hbel).str rfl hs
      have hltI : (k : Int) < (n : Int) := by omega
      have h0k : (0 : Int) ≤ (k : Int) := by omega
      clear hs
      go_wp2_with fail
      go_quiet (fail)
      go_wp2_with fail
      go_roundw
      case rel => first | exact ⟨k + 1, by omega, by go_num, below_drewN hbel _⟩ | exact ⟨_, ⟨k + 1, by omega, by simp, below_drewN hbel _⟩, rfl⟩ | exact ⟨_, _, ⟨k + 1, by omega, by simp, below_drewN hbel _⟩, rfl, rfl⟩ | exact ⟨_, _, _, ⟨k + 1, by omega, by simp, below_drewN hbel _⟩, rfl, rfl, rfl⟩
      case measure => simp [intOf]; omega
    · have hge : ¬ (k : Int) < (n : Int) := by omega
      go_wp2_with fail
      go_ret
      exact ⟨rfl, hbel⟩
end Go.Proofs.Ytdmdfpdigoijoaa
