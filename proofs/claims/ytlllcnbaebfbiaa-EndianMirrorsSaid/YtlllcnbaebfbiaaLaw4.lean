/-
  The walk of the law EndianMirrors.
-/
import Derived.Test.YtlllcnbaebfbiaaD
namespace Go.Proofs.Ytlllcnbaebfbiaa
open Go.RowKit

theorem bt_zero {n : Int} {s : Nat} (hf : fitsB n s = true) : bt n s = 0 := by
  simp [fitsB] at hf
  obtain ⟨h0, h1⟩ := hf
  obtain ⟨m, rfl⟩ := Int.eq_ofNat_of_zero_le h0
  have e3 : ((256 : Int) ^ s) = ((256 ^ s : Nat) : Int) := by rw [Int.natCast_pow]; rfl
  rw [e3] at h1
  have h2 : m < 256 ^ s := by exact_mod_cast h1
  unfold bt
  rw [Int.toNat_natCast, Nat.div_eq_of_lt h2]
  rfl
theorem fits_more {n : Int} {s : Nat} (hf : fitsB n s = true) : fitsB n (s + 1) = true := by
  simp [fitsB] at hf ⊢
  refine ⟨hf.1, ?_⟩
  have hp : (0 : Int) < 256 ^ s := Int.pow_pos (by omega)
  rw [Int.pow_succ]
  omega
theorem le_more {n : Int} {s : Nat} (hf : fitsB n s = true) : leB n (s + 1) = leB n s ++ [0] := by rw [leB_snoc, bt_zero hf]
theorem be_more {n : Int} {s : Nat} (hf : fitsB n s = true) : beB n (s + 1) = 0 :: beB n s := by rw [beB_eq, le_more hf, List.reverse_append, beB_eq]; rfl

set_option maxHeartbeats 400000 in
theorem mirrors_no (n size : Int) (w : World) (hn : n < 9223372036854775808) (h : errB n size ≠ 0) :
    Calls Try.prog 4 #[.int .i64 n, .int .i64 size] w fun e w' => e = .returned (.bool true) ∧ Below w.heap.size w w' := by
  have c1 : ∀ w, _ := fun w => little_any n size w hn
  have c2 : ∀ w, _ := fun w => big_any n size w hn
  rw [strLe_bad h] at c1
  rw [strBe_bad h] at c2
  have C1 := Lib.hid c1
  have C2 := Lib.hid c2
  have hE : (errB n size != 0) = true := by simpa using h
  have hz : ByteArray.empty.size = 0 := rfl
  clear c1 c2 h
  go_enter Try.func4, Try.ntmps4
  go_wp2_with (first
    | (go_at_call 10; refine (awake_any _).mono ?_; rintro e w1 ⟨rfl, hb1⟩)
    | (go_at_call 11; refine (C1.out _).mono ?_; rintro e w2 ⟨rfl, hb2⟩)
    | (go_at_call 13; refine (C2.out _).mono ?_; rintro e w3 ⟨rfl, hb3⟩)
    | fail)
  refine wp_loop_once ?_
  go_wp2
  go_ret
  have b2 := hb1.trans (hb2.mono hb1.size)
  exact ⟨rfl, b2.trans (hb3.mono b2.size)⟩

set_option maxHeartbeats 400000 in
theorem mirrors_ok (n : Int) (s : Nat) (w : World) (hn : n < 9223372036854775808) (h : errB n s = 0) (hs1 : 1 ≤ s) (hs2 : s ≤ 8) (hf : fitsB n s = true) :
    Calls Try.prog 4 #[.int .i64 n, .int .i64 s] w fun e w' => e = .returned (.bool true) ∧ Below w.heap.size w w' := by
  have c1 : ∀ w, _ := fun w => little_any n s w hn
  have c2 : ∀ w, _ := fun w => big_any n s w hn
  rw [strLe_ok h, h] at c1
  rw [strBe_ok h, h] at c2
  have hx : (⟨(leB n s).toArray⟩ : ByteArray).size = s := by rw [size_mk, leB_length]
  have hy : (⟨(beB n s).toArray⟩ : ByteArray).size = s := by rw [size_mk, beB_length]
  have hg : ∀ k j (h1 : k < (⟨(leB n s).toArray⟩ : ByteArray).size) (h2 : j < (⟨(beB n s).toArray⟩ : ByteArray).size), k + j + 1 = s → (⟨(leB n s).toArray⟩ : ByteArray)[k] = (⟨(beB n s).toArray⟩ : ByteArray)[j] := by
    intro k j h1 h2 e
    show (leB n s)[k]'(by rw [leB_length]; omega) = (beB n s)[j]'(by rw [beB_length]; omega)
    simp only [leB, beB, List.getElem_map, List.getElem_range]
    rw [show s - 1 - j = k by omega]
  have hm : s < 8 → (∀ w : World, Calls Try.prog 11 #[.int .i64 n, .int .i64 ((s : Int) + 1)] w fun e w' => e = .returned (.tuple #[.string (⟨(leB n s).toArray⟩ ++ ⟨#[0]⟩), .int .i64 0]) ∧ Below w.heap.size w w')
      ∧ (∀ w : World, Calls Try.prog 13 #[.int .i64 n, .int .i64 ((s : Int) + 1)] w fun e w' => e = .returned (.tuple #[.string (⟨#[0]⟩ ++ ⟨(beB n s).toArray⟩), .int .i64 0]) ∧ Below w.heap.size w w') := by
    intro h8
    have he : errB n ((s + 1 : Nat) : Int) = 0 := by simp [errB]; rw [if_neg (by omega), if_pos (fits_more hf)]
    refine ⟨fun w => ?_, fun w => ?_⟩
    · have := little_any n ((s + 1 : Nat) : Int) w hn
      rw [strLe_ok he, he, le_more hf] at this
      refine this.mono fun e w' ⟨h1, h2⟩ => ⟨?_, h2⟩
      rw [h1]
      congr 4
    · have := big_any n ((s + 1 : Nat) : Int) w hn
      rw [strBe_ok he, he, be_more hf] at this
      refine this.mono fun e w' ⟨h1, h2⟩ => ⟨?_, h2⟩
      rw [h1]
      congr 4
  generalize (⟨(leB n s).toArray⟩ : ByteArray) = x at *
  generalize (⟨(beB n s).toArray⟩ : ByteArray) = y at *
  have hx1 : x.size ≤ s := by omega
  have hx2 : s ≤ x.size := by omega
  have hy1 : y.size ≤ s := by omega
  have hy2 : s ≤ y.size := by omega
  have C1 := Lib.hid c1
  have C2 := Lib.hid c2
  have HG := Lib.hid hg
  have HM := Lib.hid hm
  clear c1 c2 h hx hy hg hm hf
  have hxy : (((x.size : Int)) != (y.size : Int)) = false := by simp; omega
  go_enter Try.func4, Try.ntmps4
  go_wp2_with (first
    | (go_at_call 10; refine (awake_any _).mono ?_; rintro e w1 ⟨rfl, hb1⟩)
    | (go_at_call 11; refine (C1.out _).mono ?_; rintro e w2 ⟨rfl, hb2⟩)
    | (go_at_call 13; refine (C2.out _).mono ?_; rintro e w3 ⟨rfl, hb3⟩)
    | fail)
  have b2 := hb1.trans (hb2.mono hb1.size)
  have b3 := b2.trans (hb3.mono b2.size)
  clear b2 hb1 hb2 hb3
  go_loopw [40] (fun i wr => ∃ k : Nat, k ≤ s ∧ i = .int .i64 k ∧ Below w.heap.size w wr) (fun i _ => s - (intOf i).toNat)
  case atStart => exact ⟨0, by omega, rfl, b3⟩
  case round =>
    obtain ⟨k, hk, rfl, hb⟩ := hrel
    clear b3
    by_cases hlt : k < s
    · obtain ⟨j, hj⟩ : ∃ j, k + j + 1 = y.size := ⟨s - 1 - k, by omega⟩
      have hkx : k < x.size := by omega
      have hjy : j < y.size := by omega
      have hg := HG.out k j hkx hjy (by omega)
      have hkx' : (k : Int) < (x.size : Int) := by omega
      have e1 : IntKind.i64.wrap ((y.size : Int) - 1) = (y.size : Int) - 1 := IntWalk.i64_in _ (by omega)
      have e2 : IntKind.i64.wrap ((y.size : Int) - 1 - (k : Int)) = (j : Int) := by rw [IntWalk.i64_in _ (by omega)]; omega
      have e3 : (j : Int) < (y.size : Int) := by omega
      have HJ := Lib.hid hj
      clear hj
      go_wp2
      go_quiet (fail)
      clear e1 e2
      go_wp2
      go_roundw
      case rel => exact ⟨k + 1, by omega, by go_num, below_drewN hb _⟩
      case measure => simp [intOf]; omega
    · have hks : k = s := by omega
      have hlt' : x.size ≤ k := by omega
      by_cases h8 : s = 8
      · subst h8
        subst hks
        go_wp2
        go_ret
        exact ⟨rfl, hb⟩
      · obtain ⟨M1, M2⟩ := HM.out (by omega)
        have h8' : ((s : Int) == 8) = false := by simp; omega
        have M1 := Lib.hid M1
        have M2 := Lib.hid M2
        subst hks
        go_wp2_with (first
          | (go_at_call 11; refine (M1.out _).mono ?_; rintro e w4 ⟨rfl, hb4⟩)
          | (go_at_call 13; refine (M2.out _).mono ?_; rintro e w5 ⟨rfl, hb5⟩)
          | fail)
        go_ret
        have b4 := hb.trans (hb4.mono hb.size)
        exact ⟨rfl, b4.trans (hb5.mono b4.size)⟩

theorem mirrors_walk (n size : Int) (w : World) (w0 : (Lit.int .i64 n).wf = true) (_ : (Lit.int .i64 size).wf = true) :
    Calls Try.prog 4 #[.int .i64 n, .int .i64 size] w fun e w' => e = .returned (.bool true) ∧ Below w.heap.size w w' := by
  have hn := (wf_i64 w0).2
  by_cases h : errB n size = 0
  · obtain ⟨s, rfl, hs1, hs2, hf, _⟩ := errB_ok n size h
    exact mirrors_ok n s w hn h hs1 hs2 hf
  · exact mirrors_no n size w hn h
end Go.Proofs.Ytlllcnbaebfbiaa
