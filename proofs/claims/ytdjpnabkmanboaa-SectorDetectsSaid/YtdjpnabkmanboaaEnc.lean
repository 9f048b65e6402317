/-
  The walks of Encode and Decode of package address.
-/
import Derived.Test.YtdjpnabkmanboaaAddr
import Derived.Test.YtdjpnabkmanboaaBuild
namespace Go.Proofs.Ytdjpnabkmanboaa
open Go.RowKit
set_option linter.unusedVariables false

def msfBs (m s f : Int) : List UInt8 := [bcdB m, bcdB s, bcdB f]

set_option maxHeartbeats 2000000 in
theorem write_any (m s f : Int) (w : World) (h : msfOk m s f = true) :
    Calls Try.prog 52 #[msfV m s f, .func (.func 53) #[] #[]] w fun e w' => e = .returned (.string ⟨(msfBs m s f).toArray⟩) ∧ Below w.heap.size w w' := by
  obtain ⟨h0, h1, h2, h3, h4, h5⟩ := msfOk_iff.1 h
  have i0 : ∀ w, (Instr.index 87 (.agg #[.int .i64 m, .int .i64 s, .int .i64 f]) (.int .i64 0)).run Try.prog w = .ok (.int .i64 m) w := fun _ => by kernel_rfl
  have i1 : ∀ w, (Instr.index 87 (.agg #[.int .i64 m, .int .i64 s, .int .i64 f]) (.int .i64 1)).run Try.prog w = .ok (.int .i64 s) w := fun _ => by kernel_rfl
  have i2 : ∀ w, (Instr.index 87 (.agg #[.int .i64 m, .int .i64 s, .int .i64 f]) (.int .i64 2)).run Try.prog w = .ok (.int .i64 f) w := fun _ => by kernel_rfl
  have C := Lib.hid (split_any m s f)
  rw [msfV] at *
  clear h
  go_enter Try.func52, Try.ntmps52
  go_wp2_with fail
  refine (C.out _).mono ?_
  rintro e w1 ⟨rfl, hb1⟩
  have hB : Bld w1 (w.heap.size + 1) [] := by
    have := (Bld.new (w.alloc (.cells #[.int .i64 m, .int .i64 s, .int .i64 f] 52))).below hb1
    rwa [World.size_alloc] at this
  have b1 : Below w.heap.size w w1 := (((Below.refl _ _).alloc (Nat.le_refl _) _).alloc (by simp) _).trans (hb1.mono (by simp; omega))
  go_wp2_with fail
  go_loopw [10] (fun i wr => ∃ k : Nat, k ≤ 3 ∧ i = .int .i64 k ∧ Bld wr (w.heap.size + 1) ((msfBs m s f).take k) ∧ Below w.heap.size w wr) (fun i _ => 3 - (intOf i).toNat)
  case atStart => exact ⟨0, by omega, rfl, hB, b1⟩
  case round =>
    clear hB b1 hb1
    obtain ⟨k, hk, rfl, hB, hb⟩ := hrel
    have hkk : k = 0 ∨ k = 1 ∨ k = 2 ∨ k = 3 := by omega
    rcases hkk with rfl | rfl | rfl | rfl
    · go_wp2_with fail
      refine (part_any m _ h0 h1).mono ?_
      rintro e w2 ⟨rfl, hb2⟩
      go_wp2_with fail
      refine (bwrite_any _ _ _ _ (hB.below hb2) (by show 0 + 1 ≤ _; omega)).mono ?_
      rintro e w3 ⟨rfl, hB3, hb3⟩
      go_wp2_with fail
      go_roundw
      case rel => exact ⟨1, by omega, by go_num, hB3, (hb.trans (hb2.mono hb.size)).trans (hb3.mono (by omega))⟩
      case measure => simp [intOf]
    · go_wp2_with fail
      refine (part_any s _ h2 (by omega)).mono ?_
      rintro e w2 ⟨rfl, hb2⟩
      go_wp2_with fail
      refine (bwrite_any _ _ _ _ (hB.below hb2) (by show 1 + 1 ≤ _; omega)).mono ?_
      rintro e w3 ⟨rfl, hB3, hb3⟩
      go_wp2_with fail
      go_roundw
      case rel => exact ⟨2, by omega, by go_num, hB3, (hb.trans (hb2.mono hb.size)).trans (hb3.mono (by omega))⟩
      case measure => simp [intOf]
    · go_wp2_with fail
      refine (part_any f _ h4 (by omega)).mono ?_
      rintro e w2 ⟨rfl, hb2⟩
      go_wp2_with fail
      refine (bwrite_any _ _ _ _ (hB.below hb2) (by show 2 + 1 ≤ _; omega)).mono ?_
      rintro e w3 ⟨rfl, hB3, hb3⟩
      go_wp2_with fail
      go_roundw
      case rel => exact ⟨3, by omega, by go_num, hB3, (hb.trans (hb2.mono hb.size)).trans (hb3.mono (by omega))⟩
      case measure => simp [intOf]
    · go_wp2_with fail
      refine (bstring_any _ _ _ hB).mono ?_
      rintro e w2 ⟨rfl, hb2⟩
      go_wp2_with fail
      go_ret
      exact ⟨rfl, hb.trans (hb2.mono (by omega))⟩

theorem encode_any (m s f : Int) (w : World) (h : msfOk m s f = true) :
    Calls Try.prog 28 #[msfV m s f] w fun e w' => e = .returned (.tuple #[.string ⟨(msfBs m s f).toArray⟩, .int .i64 0]) ∧ Below w.heap.size w w' := by
  have C1 : Hid (∀ w, Calls Try.prog 51 #[msfV m s f] w fun e w' => e = .returned (.bool true) ∧ Below w.heap.size w w') := by
    have := valid_any m s f
    rwa [h] at this
  have C2 := Lib.hid (fun w => write_any m s f w h)
  rw [msfV] at *
  clear h
  go_enter Try.func28, Try.ntmps28
  go_wp2_with fail
  refine (C1.out _).mono ?_
  rintro e w1 ⟨rfl, hb1⟩
  obtain ⟨d0, d1, d2⟩ := keep3 hb1 (g := w.heap.size) (a := .int .i64 m) (b := .int .i64 s) (c := .int .i64 f) (by simp) (by simp) (by simp) (by simp)
  go_wp2_with fail
  refine (C2.out _).mono ?_
  rintro e w2 ⟨rfl, hb2⟩
  go_wp2_with fail
  go_ret2
  have b1 : Below w.heap.size w w1 := ((Below.refl _ _).alloc (Nat.le_refl _) _).trans (hb1.mono (by simp))
  exact ⟨rfl, b1.trans (hb2.mono b1.size)⟩

theorem join_any (m s f : Int) (w : World) :
    Calls Try.prog 62 #[.agg #[.int .i64 m, .int .i64 s, .int .i64 f]] w fun e w' => e = .returned (.tuple #[msfV m s f, .bool (msfOk m s f)]) ∧ Below w.heap.size w w' := by
  have C := Lib.hid (valid_any m s f)
  generalize msfOk m s f = ok at *
  rw [msfV] at *
  go_enter Try.func62, Try.ntmps62
  go_wp2_with fail
  go_region_with ((go_at_call 51; refine (C.out _).mono ?_; rintro e w1 ⟨rfl, hb1⟩; have c0 := hb1.cell (p := ⟨w.heap.size + 1, 0, none⟩) (by simp); have c1 := hb1.cell (p := ⟨w.heap.size + 1, 1, none⟩) (by simp); have c2 := hb1.cell (p := ⟨w.heap.size + 1, 2, none⟩) (by simp); have c3 := hb1.cell (p := ⟨w.heap.size + 1 + 1, 0, none⟩) (by simp); have c4 := hb1.cell (p := ⟨w.heap.size + 1 + 1, 1, none⟩) (by simp); have c5 := hb1.cell (p := ⟨w.heap.size + 1 + 1, 2, none⟩) (by simp); have f0 := hb1.frozen (p := ⟨w.heap.size + 1, 0, none⟩) (by simp); have f1 := hb1.frozen (p := ⟨w.heap.size + 1, 1, none⟩) (by simp); have f2 := hb1.frozen (p := ⟨w.heap.size + 1, 2, none⟩) (by simp)))
  all_goals
    go_wp2_with fail
    have b1 : Below w.heap.size w w1 := ((((Below.refl _ _).alloc (Nat.le_refl _) _).alloc (by simp) _).alloc (by simp; omega) _).drew.trans (hb1.mono (by simp; omega))
    refine bodyPost_ret (v := .tuple #[.agg #[.int .i64 m, .int .i64 s, .int .i64 f], .bool ok]) (by simp [results, Try.results62, go_sem, c0, c1, c2]) rfl ⟨rfl, ?_⟩
    first
    | exact ((b1.setCell (p := ⟨w.heap.size + 1, 0, none⟩) (by simp) _).setCell (p := ⟨w.heap.size + 1, 1, none⟩) (by simp) _).setCell (p := ⟨w.heap.size + 1, 2, none⟩) (by simp) _
    | exact b1
end Go.Proofs.Ytdjpnabkmanboaa
