/-
  Chapter 24: entries in plain Lean, and in memory; Small, Same and the two Sizes.
-/
import Derived.Test.YtnomodbcpndocaaSl
import Derived.Test.YtnomodbcpndocaaMem
import Derived.Test.YtnomodbcpndocaaRows2
import Derived.Test.YtnomodbcpndocaaHeld
import Derived.BigQuiet
import Derived.Deep.Cut
import Derived.Deep.RegionWith
namespace Go.Proofs.Ytnomodbcpndocaa
open Go.RowKit
set_option linter.unusedVariables false

structure Ent where
  sg : ByteArray
  v : Int
  d : ByteArray
instance : Inhabited Ent := ⟨⟨⟨#[]⟩, 0, ⟨#[]⟩⟩⟩
def encE (x : Ent) : List Value := [.string x.sg, .int .i64 x.v, .string x.d]
theorem encE_length (x : Ent) : (encE x).length = 3 := rfl
/-- What every entry of an argument has. -/
structure EntG (x : Ent) : Prop where
  v : (Lit.int .i64 x.v).wf = true
  sg : x.sg.size ≤ maxLen
  d : x.d.size ≤ maxLen
/-- From A on lie the entries l. -/
def EnAt (w : World) (B : Nat) (A : Option Addr) (l : List Ent) : Prop := SlAt w B A (flat encE l)
section
variable {w w' : World} {B C : Nat} {A : Option Addr} {l : List Ent}
theorem EnAt.below (h : EnAt w B A l) (hb : Below B w w') : EnAt w' B A l := SlAt.below h hb
theorem EnAt.mono (h : EnAt w B A l) (hBC : B ≤ C) : EnAt w C A l := SlAt.mono h hBC
theorem EnAt.all (h : EnAt w w.heap.size A l) (hb : Below w.heap.size w w') : EnAt w' w'.heap.size A l := (h.below hb).mono hb.size
theorem EnAt.one (h : EnAt w B A l) (hp : 0 < l.length) : ∃ b off, A = some ⟨b, off, none⟩ ∧ b < B := by
  obtain ⟨b, off, hA, hb, _⟩ := SlAt.one h (by rw [flat_length encE_length]; omega)
  exact ⟨b, off, hA, hb⟩
theorem EnAt.nil (w : World) (B : Nat) (A : Option Addr) : EnAt w B A [] := SlAt.nil w B A
theorem EnAt.cells (h : EnAt w B A l) {b off : Nat} (hA : A = some ⟨b, off, none⟩) {k : Nat} {x : Ent} (hk : l[k]? = some x) :
    w.cell? ⟨b, off + k * 3, none⟩ = some (.string x.sg) ∧ w.cell? ⟨b, off + k * 3 + 1, none⟩ = some (.int .i64 x.v) ∧ w.cell? ⟨b, off + k * 3 + 2, none⟩ = some (.string x.d) := by
  have c : ∀ j, j < 3 → ∀ u, (encE x)[j]? = some u → w.cell? ⟨b, off + (k * 3 + j), none⟩ = some u := fun j hj u hu => by
    obtain ⟨b', off', e, _, hc⟩ := h (k * 3 + j) u ((flat_get encE_length l k j x hk hj).trans hu)
    rw [hA] at e
    injection e with e
    injection e with e1 e2 _
    subst e1 e2
    exact hc
  refine ⟨c 0 (by omega) _ rfl, ?_, ?_⟩
  · rw [Nat.add_assoc]; exact c 1 (by omega) _ rfl
  · rw [Nat.add_assoc]; exact c 2 (by omega) _ rfl
end

def smallE (x : Ent) : Bool := decide (x.d.size ≤ 400) && decide (x.sg.size ≤ 20)
def smallB (l : List Ent) (n : Int) : Bool := decide ((l.length : Int) ≤ n) && l.all smallE
def sizeE (x : Ent) : Nat := 4 + x.d.size
def sizeL (l : List Ent) : Nat := (l.map sizeE).sum
theorem sizeL_nil : sizeL [] = 0 := rfl
theorem sizeL_cons (x : Ent) (l : List Ent) : sizeL (x :: l) = sizeE x + sizeL l := by simp [sizeL]
theorem sizeL_append (a b : List Ent) : sizeL (a ++ b) = sizeL a + sizeL b := by simp [sizeL]
theorem sizeL_take {l : List Ent} {k : Nat} {x : Ent} (hk : l[k]? = some x) : sizeL (l.take (k + 1)) = sizeL (l.take k) + sizeE x := by
  rw [List.take_add_one, hk, Option.toList_some, sizeL_append, sizeL_cons, sizeL_nil, Nat.add_zero]
theorem wrap_add3 (a b : Int) : wrap64 (wrap64 a + wrap64 b) = wrap64 (a + b) := by
  unfold wrap64
  omega
theorem wrap_add2 (a b : Int) : wrap64 (wrap64 a + b) = wrap64 (a + b) := by
  unfold wrap64
  omega

set_option maxHeartbeats 1000000 in
theorem size_any (A : Option Addr) (c : Nat) (l : List Ent) (w : World) (h : EnAt w w.heap.size A l) (hl : l.length ≤ 9223372036854775807) (hd : ∀ x ∈ l, x.d.size ≤ maxLen) :
    Calls Try.prog 15 #[.slice A l.length c] w fun e w' => e = .returned (.int .i64 (wrap64 (sizeL l : Nat))) ∧ Below w.heap.size w w' := by
  have HS := Lib.hid h
  have HD := Lib.hid hd
  obtain ⟨n, hn⟩ : ∃ n, l.length = n := ⟨_, rfl⟩
  have HN := Lib.hid hn
  rw [hn] at hl ⊢
  clear h hd hn
  go_enter Try.func15, Try.ntmps15
  go_wp2_with fail
  go_loopw [3, 8] (fun s i wr => ∃ k : Nat, k ≤ n ∧ i = .int .i64 k ∧ s = .int .i64 (wrap64 (sizeL (l.take k) : Nat)) ∧ Below w.heap.size w wr) (fun _ i _ => n - (intOf i).toNat)
  case atStart => exact ⟨0, by omega, rfl, by simp [sizeL, wrap64], Below.refl _ _⟩
  case round =>
    obtain ⟨k, hk, rfl, rfl, hbel⟩ := hrel
    by_cases hlt : k < n
    · obtain ⟨x, hx⟩ : ∃ s, l[k]? = some s := ⟨l[k]'(by rw [HN.out]; exact hlt), List.getElem?_eq_getElem _⟩
      obtain ⟨b, off, hA, hbk⟩ := HS.out.one (by rw [HN.out]; omega)
      subst hA
      obtain ⟨p0, p1, p2⟩ := (HS.out.below hbel).cells rfl hx
      have hxd := HD.out x (List.mem_of_getElem? hx)
      have HX := Lib.hid (sizeL_take hx)
      have hltI : (k : Int) < (n : Int) := by omega
      have h0k : (0 : Int) ≤ (k : Int) := by omega
      have HW := Lib.hid (wrap_add3 ((sizeL (l.take k) : Nat) : Int) (4 + (x.d.size : Int)))
      obtain ⟨S, hS⟩ : ∃ S, wrap64 ((sizeL (l.take k) : Nat) : Int) = S := ⟨_, rfl⟩
      rw [hS] at HW ⊢
      clear hx hS hxd
      go_wp2_with fail
      refine ⟨⟨k + 1, by omega, by simp, ?_, hbel.alloc hbel.size _⟩, by simp [intOf]; omega⟩
      congr 1
      refine HW.out.trans ?_
      rw [HX.out]
      unfold sizeE
      congr 1
    · obtain rfl : k = n := by omega
      have hge : ¬ (k : Int) < (k : Int) := by omega
      rw [List.take_of_length_le (Nat.le_of_eq HN.out)]
      go_wp2_with fail
      go_ret
      exact ⟨rfl, hbel⟩

set_option maxHeartbeats 1000000 in
theorem rsize_any (A : Option Addr) (c : Nat) (l : List Ent) (w : World) (h : EnAt w w.heap.size A l) (hl : l.length ≤ 9223372036854775807) :
    Calls Try.prog 16 #[.slice A l.length c] w fun e w' => e = .returned (.int .i64 (wrap64 (sizeL l : Nat))) ∧ w = w' := by
  have HS := Lib.hid h
  obtain ⟨n, hn⟩ : ∃ n, l.length = n := ⟨_, rfl⟩
  have HN := Lib.hid hn
  rw [hn] at hl ⊢
  clear h hn
  go_enter Try.func16, Try.ntmps16
  go_wp2_with fail
  go_loop [3, 4] (fun s i => ∃ k : Nat, k ≤ n ∧ i = .int .i64 k ∧ s = .int .i64 (wrap64 (sizeL (l.take k) : Nat))) (fun _ i => n - (intOf i).toNat)
  case atStart => exact ⟨0, by omega, rfl, by simp [sizeL, wrap64]⟩
  case round =>
    obtain ⟨k, hk, rfl, rfl⟩ := hrel
    by_cases hlt : k < n
    · obtain ⟨x, hx⟩ : ∃ s, l[k]? = some s := ⟨l[k]'(by rw [HN.out]; exact hlt), List.getElem?_eq_getElem _⟩
      obtain ⟨b, off, hA, hbk⟩ := HS.out.one (by rw [HN.out]; omega)
      subst hA
      obtain ⟨p0, p1, p2⟩ := HS.out.cells rfl hx
      have HX := Lib.hid (sizeL_take hx)
      have hltI : (k : Int) < (n : Int) := by omega
      have h0k : (0 : Int) ≤ (k : Int) := by omega
      have HW := Lib.hid (wrap_add2 ((sizeL (l.take k) : Nat) : Int) 4)
      have HW2 := Lib.hid (wrap_add2 (((sizeL (l.take k) : Nat) : Int) + 4) (x.d.size : Int))
      obtain ⟨S, hS⟩ : ∃ S, wrap64 ((sizeL (l.take k) : Nat) : Int) = S := ⟨_, rfl⟩
      rw [hS] at HW ⊢
      clear hx hS
      go_wp2_with fail
      refine ⟨⟨k + 1, by omega, by simp, ?_⟩, by simp [intOf]; omega⟩
      congr 1
      rw [HW.out, HW2.out, HX.out]
      unfold sizeE
      congr 1
      omega
    · obtain rfl : k = n := by omega
      have hge : ¬ (k : Int) < (k : Int) := by omega
      rw [List.take_of_length_le (Nat.le_of_eq HN.out)]
      go_wp2_with fail
      go_ret
      exact ⟨rfl, rfl⟩

set_option maxHeartbeats 1000000 in
theorem small_any (A : Option Addr) (c : Nat) (l : List Ent) (m : Int) (w : World) (h : EnAt w w.heap.size A l) (hl : l.length ≤ 9223372036854775807) :
    Calls Try.prog 10 #[.slice A l.length c, .int .i64 m] w fun e w' => e = .returned (.bool (smallB l m)) ∧ w = w' := by
  have HS := Lib.hid h
  obtain ⟨n, hn⟩ : ∃ n, l.length = n := ⟨_, rfl⟩
  have HN := Lib.hid hn
  unfold smallB
  rw [hn] at hl ⊢
  clear h hn
  go_enter Try.func10, Try.ntmps10
  by_cases hm : (n : Int) ≤ m
  · rw [decide_eq_true hm, Bool.true_and]
    have hm2 : ¬ (m < (n : Int)) := by omega
    go_wp2_with fail
    go_loop [5] (fun i => ∃ k : Nat, k ≤ n ∧ i = .int .i64 k ∧ Hid ((l.take k).all smallE = true)) (fun i => n - (intOf i).toNat)
    case atStart => exact ⟨0, by omega, rfl, Lib.hid rfl⟩
    case round =>
      obtain ⟨k, hk, rfl, hall⟩ := hrel
      by_cases hlt : k < n
      · obtain ⟨x, hx⟩ : ∃ s, l[k]? = some s := ⟨l[k]'(by rw [HN.out]; exact hlt), List.getElem?_eq_getElem _⟩
        obtain ⟨b, off, hA, hbk⟩ := HS.out.one (by rw [HN.out]; omega)
        subst hA
        obtain ⟨p0, p1, p2⟩ := HS.out.cells rfl hx
        have HX := Lib.hid hx
        have hltI : (k : Int) < (n : Int) := by omega
        have h0k : (0 : Int) ≤ (k : Int) := by omega
        have hsE : smallE x = (decide (x.d.size ≤ 400) && decide (x.sg.size ≤ 20)) := rfl
        clear hx
        by_cases h1 : x.d.size ≤ 400 ∧ x.sg.size ≤ 20
        · have h1a : ¬ (400 : Int) < (x.d.size : Int) := by omega
          have h1b : ¬ (20 : Int) < (x.sg.size : Int) := by omega
          have hnx : Hid ((l.take (k + 1)).all smallE = true) := Lib.hid (by rw [List.take_add_one, HX.out, Option.toList_some, List.all_append, hall.out]; simp [hsE, h1])
          clear hsE h1
          go_wp2_with fail
          go_round
          case rel => first | exact ⟨k + 1, by omega, by go_num, hnx⟩ | exact ⟨_, ⟨k + 1, by omega, by simp, hnx⟩, rfl⟩
          case measure => simp [intOf]; omega
        · have hno : l.all smallE = false := by
            rw [List.all_eq_false]
            refine ⟨x, List.mem_of_getElem? HX.out, ?_⟩
            rw [hsE]
            simp
            omega
          have HNO := Lib.hid hno
          clear hsE hno
          by_cases h2 : x.d.size ≤ 400
          · have h1a : ¬ (400 : Int) < (x.d.size : Int) := by omega
            have h1b : (20 : Int) < (x.sg.size : Int) := by omega
            clear h1
            go_wp2_with fail
            go_ret
            exact ⟨by rw [HNO.out]; rfl, rfl⟩
          · have h1a : (400 : Int) < (x.d.size : Int) := by omega
            clear h1
            go_wp2_with fail
            go_ret
            exact ⟨by rw [HNO.out]; rfl, rfl⟩
      · obtain rfl : k = n := by omega
        have hge : ¬ (k : Int) < (k : Int) := by omega
        rw [List.take_of_length_le (Nat.le_of_eq HN.out)] at hall
        go_wp2_with fail
        go_ret
        exact ⟨by rw [hall.out]; rfl, rfl⟩
  · rw [decide_eq_false hm, Bool.false_and]
    have hm2 : m < (n : Int) := by omega
    go_wp2_with fail
    go_ret
    exact ⟨rfl, rfl⟩

set_option maxHeartbeats 1000000 in
theorem ents_same (A A' : Option Addr) (c c' : Nat) (l : List Ent) (w : World) (h : EnAt w w.heap.size A l) (h' : EnAt w w.heap.size A' l) (hl : l.length ≤ 1000000) :
    Calls Try.prog 17 #[.slice A l.length c, .slice A' l.length c'] w fun e w' => e = .returned (.bool true) ∧ Below w.heap.size w w' := by
  have HS := Lib.hid h
  have HS' := Lib.hid h'
  obtain ⟨n, hn⟩ : ∃ n, l.length = n := ⟨_, rfl⟩
  have HN := Lib.hid hn
  rw [hn] at hl ⊢
  clear h h' hn
  go_enter Try.func17, Try.ntmps17
  go_wp2_with fail
  go_loopw [5] (fun i wr => ∃ k : Nat, k ≤ n ∧ i = .int .i64 k ∧ Below w.heap.size w wr) (fun i _ => n - (intOf i).toNat)
  case atStart => exact ⟨0, by omega, rfl, Below.refl _ _⟩
  case round =>
    obtain ⟨k, hk, rfl, hbel⟩ := hrel
    by_cases hlt : k < n
    · obtain ⟨s, hs⟩ : ∃ s, l[k]? = some s := ⟨l[k]'(by rw [HN.out]; exact hlt), List.getElem?_eq_getElem _⟩
      obtain ⟨b, off, hA, hbk⟩ := HS.out.one (by rw [HN.out]; omega)
      obtain ⟨b', off', hA', hbk'⟩ := HS'.out.one (by rw [HN.out]; omega)
      subst hA hA'
      obtain ⟨p0, p1, p2⟩ := (HS.out.below hbel).cells rfl hs
      obtain ⟨q0, q1, q2⟩ := (HS'.out.below hbel).cells rfl hs
      have hltI : (k : Int) < (n : Int) := by omega
      have h0k : (0 : Int) ≤ (k : Int) := by omega
      clear hs
      go_wp2_with fail
      go_quiet (fail)
      go_wp2_with fail
      go_roundw
      case rel => first | exact ⟨k + 1, by omega, by go_num, below_drewN hbel _⟩ | exact ⟨_, ⟨k + 1, by omega, by simp, below_drewN hbel _⟩, rfl⟩ | exact ⟨_, _, ⟨k + 1, by omega, by simp, below_drewN hbel _⟩, rfl, rfl⟩ | exact ⟨_, _, _, ⟨k + 1, by omega, by simp, below_drewN hbel _⟩, rfl, rfl, rfl⟩
      case measure => simp [intOf]; omega
    · have hge : ¬ (k : Int) < (n : Int) := by omega
      go_wp2_with fail
      go_ret
      exact ⟨rfl, hbel⟩
end Go.Proofs.Ytnomodbcpndocaa
