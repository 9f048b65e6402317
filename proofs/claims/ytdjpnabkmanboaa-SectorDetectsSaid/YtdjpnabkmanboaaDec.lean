/-
  The walk of Decode of package address.
-/
import Derived.Test.YtdjpnabkmanboaaEnc
import Derived.Test.YtdjpnabkmanboaaArr
namespace Go.Proofs.Ytdjpnabkmanboaa
open Go.RowKit
set_option linter.unusedVariables false

/-- What three bytes decode to. -/
def decOk (b0 b1 b2 : Int) : Prop := unOk b0 ∧ unOk b1 ∧ unOk b2 ∧ msfOk (unV b0) (unV b1) (unV b2) = true
instance (b0 b1 b2 : Int) : Decidable (decOk b0 b1 b2) := by unfold decOk; infer_instance
def decR (b0 b1 b2 : Int) : Value := if decOk b0 b1 b2 then .tuple #[msfV (unV b0) (unV b1) (unV b2), .int .i64 0] else .tuple #[msfV 0 0 0, .int .i64 10]
theorem decR_ok {b0 b1 b2 : Int} (h : decOk b0 b1 b2) : decR b0 b1 b2 = .tuple #[msfV (unV b0) (unV b1) (unV b2), .int .i64 0] := if_pos h
theorem decR_no {b0 b1 b2 : Int} (h : ¬ decOk b0 b1 b2) : decR b0 b1 b2 = .tuple #[msfV 0 0 0, .int .i64 10] := if_neg h
def arr3 (b0 b1 b2 : Int) : Nat → Array Value
  | 0 => #[.int .i64 0, .int .i64 0, .int .i64 0]
  | 1 => #[.int .i64 (unV b0), .int .i64 0, .int .i64 0]
  | 2 => #[.int .i64 (unV b0), .int .i64 (unV b1), .int .i64 0]
  | _ => #[.int .i64 (unV b0), .int .i64 (unV b1), .int .i64 (unV b2)]

set_option maxHeartbeats 4000000 in
theorem decode_any (s : ByteArray) (at_ : Nat) (w : World) (h : at_ + 3 ≤ s.size) (hs : s.size ≤ 140737488351232) (b0 b1 b2 : Int) (e0 : ((s[at_]'(by omega)).toNat : Int) = b0) (e1 : ((s[at_ + 1]'(by omega)).toNat : Int) = b1) (e2 : ((s[at_ + 2]'(by omega)).toNat : Int) = b2) :
    Calls Try.prog 40 #[.string s, .int .i64 (at_ : Int)] w fun e w' => e = .returned (decR b0 b1 b2) ∧ Below w.heap.size w w' := by
  have p0 : 0 ≤ b0 := by omega
  have p1 : 0 ≤ b1 := by omega
  have p2 : 0 ≤ b2 := by omega
  have q0 : b0 ≤ 255 := by have := (s[at_]'(by omega)).toNat_lt; omega
  have q1 : b1 ≤ 255 := by have := (s[at_ + 1]'(by omega)).toNat_lt; omega
  have q2 : b2 ≤ 255 := by have := (s[at_ + 2]'(by omega)).toNat_lt; omega
  have h0 : (0 : Int) ≤ (at_ : Int) := by omega
  have h1 : ¬ ((s.size : Int) - 3 < (at_ : Int)) := by omega
  have l0 : at_ < s.size := by omega
  have l1 : at_ + 1 < s.size := by omega
  have l2 : at_ + 2 < s.size := by omega
  have HJ := Lib.hid (fun a b c w => join_any a b c w)
  go_enter Try.func40, Try.ntmps40
  go_wp2_with fail
  have hr0 : RowAt ((w.alloc (.cells #[.int .i64 0, .int .i64 0, .int .i64 0] 52)).alloc (.cells #[.int .i64 0, .int .i64 0, .int .i64 0] 87)) (w.heap.size + 1) 87 (arr3 b0 b1 b2 0) := by
    have := RowAt.new (w.alloc (.cells #[.int .i64 0, .int .i64 0, .int .i64 0] 52)) 87 (arr3 b0 b1 b2 0)
    rw [World.size_alloc] at this
    exact this
  have hz0 : RowAt ((w.alloc (.cells #[.int .i64 0, .int .i64 0, .int .i64 0] 52)).alloc (.cells #[.int .i64 0, .int .i64 0, .int .i64 0] 87)) w.heap.size 52 #[.int .i64 0, .int .i64 0, .int .i64 0] := (RowAt.new w _ _).alloc _
  have hb0 : Below w.heap.size w ((w.alloc (.cells #[.int .i64 0, .int .i64 0, .int .i64 0] 52)).alloc (.cells #[.int .i64 0, .int .i64 0, .int .i64 0] 87)) := ((Below.refl _ _).alloc (Nat.le_refl _) _).alloc (by simp) _
  go_loopw [22] (fun i wr => ∃ k : Nat, k ≤ 3 ∧ i = .int .i64 k ∧ RowAt wr (w.heap.size + 1) 87 (arr3 b0 b1 b2 k) ∧ RowAt wr w.heap.size 52 #[.int .i64 0, .int .i64 0, .int .i64 0] ∧ Below w.heap.size w wr ∧ (0 < k → unOk b0) ∧ (1 < k → unOk b1) ∧ (2 < k → unOk b2)) (fun i _ => 3 - (intOf i).toNat)
  case atStart => exact ⟨0, by omega, rfl, hr0, hz0, hb0, by omega, by omega, by omega⟩
  case round =>
    clear hr0 hz0 hb0
    obtain ⟨k, hk, rfl, hr, hz, hb, r0, r1, r2⟩ := hrel
    have hkk : k = 0 ∨ k = 1 ∨ k = 2 ∨ k = 3 := by omega
    rcases hkk with rfl | rfl | rfl | rfl
    · have c0 : wr.cell? ⟨w.heap.size + 1, 0, none⟩ = some (.int .i64 0) := hr.cell 0
      have f0 := hr.frozen 0
      have z0 : wr.cell? ⟨w.heap.size, 0, none⟩ = some (.int .i64 0) := hz.cell 0
      have z1 : wr.cell? ⟨w.heap.size, 1, none⟩ = some (.int .i64 0) := hz.cell 1
      have z2 : wr.cell? ⟨w.heap.size, 2, none⟩ = some (.int .i64 0) := hz.cell 2
      have y0 := hz.frozen 0
      have y1 := hz.frozen 1
      have y2 := hz.frozen 2
      by_cases hu : unOk b0
      · have C : Hid (∀ w, Calls Try.prog 61 #[.int .u8 b0] w fun e w' => e = .returned (.tuple #[.int .i64 (unV b0), .int .i64 0]) ∧ w = w') := by
          have := fun w => frombcd_any b0 w p0 q0
          rwa [show unE b0 = 0 from if_pos hu] at this
        go_wp2_with fail
        refine (C.out _).mono ?_
        rintro e w' ⟨rfl, rfl⟩
        go_wp2_with fail
        go_roundw
        case rel => exact ⟨1, by omega, by go_num, hr.set_ 0 _, hz.far (by show w.heap.size ≠ w.heap.size + 1; omega) _, hb.setCell (p := ⟨w.heap.size + 1, 0, none⟩) (by simp) _, fun h => hu, fun h => absurd h (by omega), fun h => absurd h (by omega)⟩
        case measure => simp [intOf]
      · have C : Hid (∀ w, Calls Try.prog 61 #[.int .u8 b0] w fun e w' => e = .returned (.tuple #[.int .i64 (unV b0), .int .i64 2]) ∧ w = w') := by
          have := fun w => frombcd_any b0 w p0 q0
          rwa [show unE b0 = 2 from if_neg hu] at this
        have HR := Lib.hid (decR_no (b0 := b0) (b1 := b1) (b2 := b2) (fun h => hu h.1))
        go_wp2_with fail
        refine (C.out _).mono ?_
        rintro e w' ⟨rfl, rfl⟩
        go_wp2_with fail
        refine bodyPost_ret (v := .tuple #[.agg #[.int .i64 0, .int .i64 0, .int .i64 0], .int .i64 10]) (by simp [results, Try.results40, go_sem, z0, z1, z2]) rfl ⟨by rw [HR.out]; rfl, ?_⟩
        exact ((hb.setCell (p := ⟨w.heap.size, 0, none⟩) (Nat.le_refl _) _).setCell (p := ⟨w.heap.size, 1, none⟩) (Nat.le_refl _) _).setCell (p := ⟨w.heap.size, 2, none⟩) (Nat.le_refl _) _
    · have c0 : wr.cell? ⟨w.heap.size + 1, 1, none⟩ = some (.int .i64 0) := hr.cell 1
      have f0 := hr.frozen 1
      have z0 : wr.cell? ⟨w.heap.size, 0, none⟩ = some (.int .i64 0) := hz.cell 0
      have z1 : wr.cell? ⟨w.heap.size, 1, none⟩ = some (.int .i64 0) := hz.cell 1
      have z2 : wr.cell? ⟨w.heap.size, 2, none⟩ = some (.int .i64 0) := hz.cell 2
      have y0 := hz.frozen 0
      have y1 := hz.frozen 1
      have y2 := hz.frozen 2
      by_cases hu : unOk b1
      · have C : Hid (∀ w, Calls Try.prog 61 #[.int .u8 b1] w fun e w' => e = .returned (.tuple #[.int .i64 (unV b1), .int .i64 0]) ∧ w = w') := by
          have := fun w => frombcd_any b1 w p1 q1
          rwa [show unE b1 = 0 from if_pos hu] at this
        go_wp2_with fail
        refine (C.out _).mono ?_
        rintro e w' ⟨rfl, rfl⟩
        go_wp2_with fail
        go_roundw
        case rel => exact ⟨2, by omega, by go_num, hr.set_ 1 _, hz.far (by show w.heap.size ≠ w.heap.size + 1; omega) _, hb.setCell (p := ⟨w.heap.size + 1, 1, none⟩) (by simp) _, fun h => r0 (by omega), fun h => hu, fun h => absurd h (by omega)⟩
        case measure => simp [intOf]
      · have C : Hid (∀ w, Calls Try.prog 61 #[.int .u8 b1] w fun e w' => e = .returned (.tuple #[.int .i64 (unV b1), .int .i64 2]) ∧ w = w') := by
          have := fun w => frombcd_any b1 w p1 q1
          rwa [show unE b1 = 2 from if_neg hu] at this
        have HR := Lib.hid (decR_no (b0 := b0) (b1 := b1) (b2 := b2) (fun h => hu h.2.1))
        go_wp2_with fail
        refine (C.out _).mono ?_
        rintro e w' ⟨rfl, rfl⟩
        go_wp2_with fail
        refine bodyPost_ret (v := .tuple #[.agg #[.int .i64 0, .int .i64 0, .int .i64 0], .int .i64 10]) (by simp [results, Try.results40, go_sem, z0, z1, z2]) rfl ⟨by rw [HR.out]; rfl, ?_⟩
        exact ((hb.setCell (p := ⟨w.heap.size, 0, none⟩) (Nat.le_refl _) _).setCell (p := ⟨w.heap.size, 1, none⟩) (Nat.le_refl _) _).setCell (p := ⟨w.heap.size, 2, none⟩) (Nat.le_refl _) _
    · have c0 : wr.cell? ⟨w.heap.size + 1, 2, none⟩ = some (.int .i64 0) := hr.cell 2
      have f0 := hr.frozen 2
      have z0 : wr.cell? ⟨w.heap.size, 0, none⟩ = some (.int .i64 0) := hz.cell 0
      have z1 : wr.cell? ⟨w.heap.size, 1, none⟩ = some (.int .i64 0) := hz.cell 1
      have z2 : wr.cell? ⟨w.heap.size, 2, none⟩ = some (.int .i64 0) := hz.cell 2
      have y0 := hz.frozen 0
      have y1 := hz.frozen 1
      have y2 := hz.frozen 2
      by_cases hu : unOk b2
      · have C : Hid (∀ w, Calls Try.prog 61 #[.int .u8 b2] w fun e w' => e = .returned (.tuple #[.int .i64 (unV b2), .int .i64 0]) ∧ w = w') := by
          have := fun w => frombcd_any b2 w p2 q2
          rwa [show unE b2 = 0 from if_pos hu] at this
        go_wp2_with fail
        refine (C.out _).mono ?_
        rintro e w' ⟨rfl, rfl⟩
        go_wp2_with fail
        go_roundw
        case rel => exact ⟨3, by omega, by go_num, hr.set_ 2 _, hz.far (by show w.heap.size ≠ w.heap.size + 1; omega) _, hb.setCell (p := ⟨w.heap.size + 1, 2, none⟩) (by simp) _, fun h => r0 (by omega), fun h => r1 (by omega), fun h => hu⟩
        case measure => simp [intOf]
      · have C : Hid (∀ w, Calls Try.prog 61 #[.int .u8 b2] w fun e w' => e = .returned (.tuple #[.int .i64 (unV b2), .int .i64 2]) ∧ w = w') := by
          have := fun w => frombcd_any b2 w p2 q2
          rwa [show unE b2 = 2 from if_neg hu] at this
        have HR := Lib.hid (decR_no (b0 := b0) (b1 := b1) (b2 := b2) (fun h => hu h.2.2.1))
        go_wp2_with fail
        refine (C.out _).mono ?_
        rintro e w' ⟨rfl, rfl⟩
        go_wp2_with fail
        refine bodyPost_ret (v := .tuple #[.agg #[.int .i64 0, .int .i64 0, .int .i64 0], .int .i64 10]) (by simp [results, Try.results40, go_sem, z0, z1, z2]) rfl ⟨by rw [HR.out]; rfl, ?_⟩
        exact ((hb.setCell (p := ⟨w.heap.size, 0, none⟩) (Nat.le_refl _) _).setCell (p := ⟨w.heap.size, 1, none⟩) (Nat.le_refl _) _).setCell (p := ⟨w.heap.size, 2, none⟩) (Nat.le_refl _) _
    · have u0 := r0 (by omega)
      have u1 := r1 (by omega)
      have u2 := r2 (by omega)
      have c0 : wr.cell? ⟨w.heap.size + 1, 0, none⟩ = some (.int .i64 (unV b0)) := hr.cell 0
      have c1 : wr.cell? ⟨w.heap.size + 1, 1, none⟩ = some (.int .i64 (unV b1)) := hr.cell 1
      have c2 : wr.cell? ⟨w.heap.size + 1, 2, none⟩ = some (.int .i64 (unV b2)) := hr.cell 2
      have hlt := hz.lt
      have C := Lib.hid (fun w => HJ.out (unV b0) (unV b1) (unV b2) w)
      by_cases hm : msfOk (unV b0) (unV b1) (unV b2) = true
      · have HR := Lib.hid (decR_ok (b0 := b0) (b1 := b1) (b2 := b2) ⟨u0, u1, u2, hm⟩)
        rw [hm] at C
        clear hm r0 r1 r2 u0 u1 u2
        generalize unV b0 = x0 at *
        generalize unV b1 = x1 at *
        generalize unV b2 = x2 at *
        rw [msfV] at C HR
        go_wp2_with fail
        refine (C.out _).mono ?_
        rintro e w2 ⟨rfl, hb2⟩
        have z0 : w2.cell? ⟨w.heap.size, 0, none⟩ = some (.int .i64 0) := (hz.below hb2 hlt).cell 0
        have z1 : w2.cell? ⟨w.heap.size, 1, none⟩ = some (.int .i64 0) := (hz.below hb2 hlt).cell 1
        have z2 : w2.cell? ⟨w.heap.size, 2, none⟩ = some (.int .i64 0) := (hz.below hb2 hlt).cell 2
        have y0 := (hz.below hb2 hlt).frozen 0
        have y1 := (hz.below hb2 hlt).frozen 1
        have y2 := (hz.below hb2 hlt).frozen 2
        have hs2 : w.heap.size < w2.heap.size := by have := hb2.size; omega
        have b2' : Below w.heap.size w w2 := hb.trans (hb2.mono hb.size)
        go_wp2_with fail
        refine bodyPost_ret (v := .tuple #[.agg #[.int .i64 x0, .int .i64 x1, .int .i64 x2], .int .i64 0]) (by simp [results, Try.results40, go_sem, z0, z1, z2, hs2]) rfl ⟨by rw [HR.out], ?_⟩
        exact (((b2'.setCell (p := ⟨w.heap.size, 0, none⟩) (Nat.le_refl _) _).setCell (p := ⟨w.heap.size, 1, none⟩) (Nat.le_refl _) _).setCell (p := ⟨w.heap.size, 2, none⟩) (Nat.le_refl _) _).alloc (by simp; omega) _
      · have HR := Lib.hid (decR_no (b0 := b0) (b1 := b1) (b2 := b2) (fun h => hm h.2.2.2))
        rw [show msfOk (unV b0) (unV b1) (unV b2) = false by simpa using hm] at C
        clear hm r0 r1 r2 u0 u1 u2
        generalize unV b0 = x0 at *
        generalize unV b1 = x1 at *
        generalize unV b2 = x2 at *
        rw [msfV] at C HR
        go_wp2_with fail
        refine (C.out _).mono ?_
        rintro e w2 ⟨rfl, hb2⟩
        have z0 : w2.cell? ⟨w.heap.size, 0, none⟩ = some (.int .i64 0) := (hz.below hb2 hlt).cell 0
        have z1 : w2.cell? ⟨w.heap.size, 1, none⟩ = some (.int .i64 0) := (hz.below hb2 hlt).cell 1
        have z2 : w2.cell? ⟨w.heap.size, 2, none⟩ = some (.int .i64 0) := (hz.below hb2 hlt).cell 2
        have y0 := (hz.below hb2 hlt).frozen 0
        have y1 := (hz.below hb2 hlt).frozen 1
        have y2 := (hz.below hb2 hlt).frozen 2
        have hs2 : w.heap.size < w2.heap.size := by have := hb2.size; omega
        have b2' : Below w.heap.size w w2 := hb.trans (hb2.mono hb.size)
        go_wp2_with fail
        refine bodyPost_ret (v := .tuple #[.agg #[.int .i64 0, .int .i64 0, .int .i64 0], .int .i64 10]) (by simp [results, Try.results40, go_sem, z0, z1, z2, hs2]) rfl ⟨by rw [HR.out], ?_⟩
        exact (((b2'.setCell (p := ⟨w.heap.size, 0, none⟩) (Nat.le_refl _) _).setCell (p := ⟨w.heap.size, 1, none⟩) (Nat.le_refl _) _).setCell (p := ⟨w.heap.size, 2, none⟩) (Nat.le_refl _) _).alloc (by simp; omega) _
end Go.Proofs.Ytdjpnabkmanboaa
