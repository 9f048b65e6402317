/-
  Valid, of the program and of the reference.
-/
import Derived.Test.YtdjpnabkmanboaaLay
namespace Go.Proofs.Ytdjpnabkmanboaa
open Go.RowKit
set_option linter.unusedVariables false

structure Sec where
  lba : Int
  mode : Int
  fi : Int
  ch : Int
  su : Int
  co : Int
  data : ByteArray
def secV (x : Sec) : Value := .agg #[.int .i64 x.lba, .int .i64 x.mode, .int .i64 x.fi, .int .i64 x.ch, .int .i64 x.su, .int .i64 x.co, .string x.data]
def subOk (x : Sec) : Bool :=
  if x.mode = 0 then decide (x.fi = 0 ∧ x.ch = 0 ∧ x.su = 0 ∧ x.co = 0)
  else btw x.fi 255 && btw x.ch 31 && btw x.su 255 && btw x.co 255 && decide (x.su / 32 % 2 = 1 ↔ x.mode = 2)
def validB (x : Sec) : Bool := modeOk x.mode && decide (-150 ≤ x.lba ∧ x.lba ≤ 449849) && decide ((x.data.size : Int) = lCap x.mode) && subOk x

theorem bcell {B : Nat} {W w1 : World} (hb : Below B W w1) : ∀ b o, b < B → w1.cell? ⟨b, o, none⟩ = W.cell? ⟨b, o, none⟩ := fun b o h => hb.cell (p := ⟨b, o, none⟩) h
theorem and32_fin : ∀ k : Fin 256, bits BinOp.and IntKind.i64 (k.val : Int) 32 = if (k.val : Int) / 32 % 2 = 1 then 32 else 0 := by decide +kernel
theorem and32 {n : Int} (h0 : 0 ≤ n) (h1 : n ≤ 255) : bits BinOp.and IntKind.i64 n 32 = if n / 32 % 2 = 1 then 32 else 0 := by
  have := and32_fin ⟨n.toNat, by omega⟩
  simpa [Int.toNat_of_nonneg h0] using this

theorem tomsf_any (n : Int) (hn : -9223372036854775808 ≤ n) : ∃ a b c e : Int, (∀ w, Calls Try.prog 27 #[.int .i64 n] w fun r w' => r = .returned (.tuple #[.agg #[.int .i64 a, .int .i64 b, .int .i64 c], .int .i64 e]) ∧ Below w.heap.size w w') ∧ ((e = 0 ∧ -150 ≤ n ∧ n ≤ 449849) ∨ (e = 2 ∧ (n < -150 ∨ 449849 < n))) := by
  by_cases h : -150 ≤ n ∧ n ≤ 449849
  · exact ⟨_, _, _, 0, fun w => tomsf_ok n w h.1 h.2, .inl ⟨rfl, h⟩⟩
  · exact ⟨_, _, _, 2, fun w => tomsf_no n w hn (by omega), .inr ⟨rfl, by omega⟩⟩

/-- The bad modes. -/
theorem valid_mode (x : Sec) (w : World) (hn : -9223372036854775808 ≤ x.lba) (h : modeOk x.mode = false) :
    Calls Try.prog 13 #[secV x] w fun e w' => e = .returned (.bool false) ∧ Below w.heap.size w w' := by
  obtain ⟨lba, mode, fi, ch, su, co, data⟩ := x
  obtain ⟨a, b, c, e, hC, _⟩ := tomsf_any lba hn
  have C1 := Lib.hid (fun w => layouts_no mode w h)
  have C2 := Lib.hid hC
  rw [secV]
  clear hC h
  go_enter Try.func13, Try.ntmps13
  go_wp2_with fail
  refine (C1.out _).mono ?_
  rintro r w1 ⟨rfl, hb1⟩
  have hs1 : w.heap.size < w1.heap.size := by have := hb1.size; simp at this; omega
  have hc1 := bcell hb1
  go_wp2_with fail
  refine (C2.out _).mono ?_
  rintro r w2 ⟨rfl, hb2⟩
  have hs2 : w1.heap.size < w2.heap.size := by have := hb2.size; simp at this; omega
  have hc2 := bcell hb2
  go_wp2_with fail
  go_ret
  have b1 : Below w.heap.size w w1 := ((Below.refl _ _).alloc (Nat.le_refl _) _).trans (hb1.mono (by simp))
  have b2 : Below w.heap.size w w2 := (b1.alloc b1.size _).trans (hb2.mono (by simp; omega))
  exact ⟨rfl, b2.alloc b2.size _⟩

/-- The layout's cells of a mode. -/
def L4 (m : Int) : Int × Int × Int × Int := (lByte m, lData m, lCap m, lCov m)

set_option maxHeartbeats 1000000 in
theorem valid_size (x : Sec) (w : World) (hn : -9223372036854775808 ≤ x.lba) (hd : x.data.size ≤ 9223372036854775807) (hm : modeOk x.mode = true) (h : ¬ (-150 ≤ x.lba ∧ x.lba ≤ 449849 ∧ (x.data.size : Int) = lCap x.mode)) :
    Calls Try.prog 13 #[secV x] w fun e w' => e = .returned (.bool false) ∧ Below w.heap.size w w' := by
  obtain ⟨lba, mode, fi, ch, su, co, data⟩ := x
  obtain ⟨a, b, c, e, hC, he⟩ := tomsf_any lba hn
  have C1 := Lib.hid (fun w => layouts_ok mode w hm)
  have C2 := Lib.hid hC
  rw [layV] at C1
  rw [secV]
  have hq : (e = 2) ∨ (e = 0 ∧ ((data.size : Int) != lCap mode) = true) := by
    rcases he with ⟨h1, h2, h3⟩ | ⟨h1, h2⟩
    · exact .inr ⟨h1, by simp only [bne_iff_ne]; intro hh; exact h ⟨h2, h3, hh⟩⟩
    · exact .inl h1
  clear hC h he
  generalize lData mode = l1 at *
  generalize lCap mode = l2 at *
  generalize lByte mode = l0 at *
  generalize lCov mode = l3 at *
  rcases hq with rfl | ⟨rfl, hq⟩
  all_goals
    go_enter Try.func13, Try.ntmps13
    go_wp2_with fail
    refine (C1.out _).mono ?_
    rintro r w1 ⟨rfl, hb1⟩
    have hs1 : w.heap.size < w1.heap.size := by have := hb1.size; simp at this; omega
    have hr1 : RowAt w1 w.heap.size 25 _ := (RowAt.new w _ _).below hb1 (by simp)
    have hc1 := hr1.cell
    go_wp2_with fail
    refine (C2.out _).mono ?_
    rintro r w2 ⟨rfl, hb2⟩
    have hs2 : w1.heap.size < w2.heap.size := by have := hb2.size; simp at this; omega
    have hr2 : RowAt w2 w.heap.size 25 _ := (hr1.alloc _).below hb2 (by simp; omega)
    have hl2 : RowAt w2 w1.heap.size 48 #[.int .u8 l0, .int .i64 l1, .int .i64 l2, .int .i64 l3] := (RowAt.new w1 _ _).below hb2 (by simp)
    have hc2 := hr2.cell
    have hm2 := hl2.cell
    have hs3 : w.heap.size < w2.heap.size := by omega
    have b1 : Below w.heap.size w w1 := ((Below.refl _ _).alloc (Nat.le_refl _) _).trans (hb1.mono (by simp))
    have b2 : Below w.heap.size w w2 := (b1.alloc b1.size _).trans (hb2.mono (by simp; omega))
    go_wp2_with fail
    go_ret
    exact ⟨rfl, b2.alloc b2.size _⟩

set_option maxHeartbeats 2000000 in
theorem valid_one (x : Sec) (w : World) (hd : x.data.size ≤ 9223372036854775807) (hm : x.mode = 0) (h1 : -150 ≤ x.lba) (h2 : x.lba ≤ 449849) (h3 : (x.data.size : Int) = lCap x.mode) :
    Calls Try.prog 13 #[secV x] w fun e w' => e = .returned (.bool (subOk x)) ∧ Below w.heap.size w w' := by
  obtain ⟨lba, mode, fi, ch, su, co, data⟩ := x
  dsimp only at *
  subst hm
  have C1 : Hid (∀ w, Calls Try.prog 26 #[.int .i64 0] w fun e w' => e = .returned (.tuple #[.agg #[.int .u8 1, .int .i64 16, .int .i64 2048, .int .i64 0], .bool true]) ∧ Below w.heap.size w w') := fun w => layouts_ok 0 w rfl
  have C2 := Lib.hid (fun w => tomsf_ok lba w h1 h2)
  have hsz : ((data.size : Int) != 2048) = false := by rw [h3]; rfl
  rw [secV]
  rw [msfV] at C2
  generalize (lba + 150) / 75 / 60 = m0 at *
  generalize (lba + 150) / 75 % 60 = m1 at *
  generalize (lba + 150) % 75 = m2 at *
  clear h3
  have hcs : fi ≠ 0 ∨ (fi = 0 ∧ ch ≠ 0) ∨ (fi = 0 ∧ ch = 0 ∧ su ≠ 0) ∨ (fi = 0 ∧ ch = 0 ∧ su = 0 ∧ co ≠ 0) ∨ (fi = 0 ∧ ch = 0 ∧ su = 0 ∧ co = 0) := by omega
  have hbv : subOk ⟨lba, 0, fi, ch, su, co, data⟩ = decide (fi = 0 ∧ ch = 0 ∧ su = 0 ∧ co = 0) := rfl
  generalize subOk ⟨lba, 0, fi, ch, su, co, data⟩ = bv at *
  rcases hcs with h | ⟨rfl, h⟩ | ⟨rfl, rfl, h⟩ | ⟨rfl, rfl, rfl, h⟩ | ⟨rfl, rfl, rfl, rfl⟩
  · obtain rfl : bv = false := by rw [hbv]; exact decide_eq_false (by omega)
    clear hbv
    have hn0 := beq_eq_false_iff_ne.2 h
    clear h
    go_enter Try.func13, Try.ntmps13
    go_wp2_with fail
    refine (C1.out _).mono ?_
    rintro r w1 ⟨rfl, hb1⟩
    have hs1 : w.heap.size < w1.heap.size := by have := hb1.size; simp at this; omega
    have hr1 : RowAt w1 w.heap.size 25 _ := (RowAt.new w _ _).below hb1 (by simp)
    have hc1 := hr1.cell
    go_wp2_with fail
    refine (C2.out _).mono ?_
    rintro r w2 ⟨rfl, hb2⟩
    have hs2 : w1.heap.size < w2.heap.size := by have := hb2.size; simp at this; omega
    have hr2 : RowAt w2 w.heap.size 25 _ := (hr1.alloc _).below hb2 (by simp; omega)
    have hl2 : RowAt w2 w1.heap.size 48 #[.int .u8 1, .int .i64 16, .int .i64 2048, .int .i64 0] := (RowAt.new w1 _ _).below hb2 (by simp)
    have hc2 := hr2.cell
    have hm2 := hl2.cell
    have hs3 : w.heap.size < w2.heap.size := by omega
    have b1 : Below w.heap.size w w1 := ((Below.refl _ _).alloc (Nat.le_refl _) _).trans (hb1.mono (by simp))
    have b2 : Below w.heap.size w w2 := (b1.alloc b1.size _).trans (hb2.mono (by simp; omega))
    go_wp2_with fail
    go_ret
    exact ⟨rfl, b2.alloc b2.size _⟩
  · obtain rfl : bv = false := by rw [hbv]; exact decide_eq_false (by omega)
    clear hbv
    have hn0 := beq_eq_false_iff_ne.2 h
    clear h
    go_enter Try.func13, Try.ntmps13
    go_wp2_with fail
    refine (C1.out _).mono ?_
    rintro r w1 ⟨rfl, hb1⟩
    have hs1 : w.heap.size < w1.heap.size := by have := hb1.size; simp at this; omega
    have hr1 : RowAt w1 w.heap.size 25 _ := (RowAt.new w _ _).below hb1 (by simp)
    have hc1 := hr1.cell
    go_wp2_with fail
    refine (C2.out _).mono ?_
    rintro r w2 ⟨rfl, hb2⟩
    have hs2 : w1.heap.size < w2.heap.size := by have := hb2.size; simp at this; omega
    have hr2 : RowAt w2 w.heap.size 25 _ := (hr1.alloc _).below hb2 (by simp; omega)
    have hl2 : RowAt w2 w1.heap.size 48 #[.int .u8 1, .int .i64 16, .int .i64 2048, .int .i64 0] := (RowAt.new w1 _ _).below hb2 (by simp)
    have hc2 := hr2.cell
    have hm2 := hl2.cell
    have hs3 : w.heap.size < w2.heap.size := by omega
    have b1 : Below w.heap.size w w1 := ((Below.refl _ _).alloc (Nat.le_refl _) _).trans (hb1.mono (by simp))
    have b2 : Below w.heap.size w w2 := (b1.alloc b1.size _).trans (hb2.mono (by simp; omega))
    go_wp2_with fail
    go_ret
    exact ⟨rfl, b2.alloc b2.size _⟩
  · obtain rfl : bv = false := by rw [hbv]; exact decide_eq_false (by omega)
    clear hbv
    have hn0 := beq_eq_false_iff_ne.2 h
    clear h
    go_enter Try.func13, Try.ntmps13
    go_wp2_with fail
    refine (C1.out _).mono ?_
    rintro r w1 ⟨rfl, hb1⟩
    have hs1 : w.heap.size < w1.heap.size := by have := hb1.size; simp at this; omega
    have hr1 : RowAt w1 w.heap.size 25 _ := (RowAt.new w _ _).below hb1 (by simp)
    have hc1 := hr1.cell
    go_wp2_with fail
    refine (C2.out _).mono ?_
    rintro r w2 ⟨rfl, hb2⟩
    have hs2 : w1.heap.size < w2.heap.size := by have := hb2.size; simp at this; omega
    have hr2 : RowAt w2 w.heap.size 25 _ := (hr1.alloc _).below hb2 (by simp; omega)
    have hl2 : RowAt w2 w1.heap.size 48 #[.int .u8 1, .int .i64 16, .int .i64 2048, .int .i64 0] := (RowAt.new w1 _ _).below hb2 (by simp)
    have hc2 := hr2.cell
    have hm2 := hl2.cell
    have hs3 : w.heap.size < w2.heap.size := by omega
    have b1 : Below w.heap.size w w1 := ((Below.refl _ _).alloc (Nat.le_refl _) _).trans (hb1.mono (by simp))
    have b2 : Below w.heap.size w w2 := (b1.alloc b1.size _).trans (hb2.mono (by simp; omega))
    go_wp2_with fail
    go_ret
    exact ⟨rfl, b2.alloc b2.size _⟩
  · obtain rfl : bv = false := by rw [hbv]; exact decide_eq_false (by omega)
    clear hbv
    have hn0 := beq_eq_false_iff_ne.2 h
    clear h
    go_enter Try.func13, Try.ntmps13
    go_wp2_with fail
    refine (C1.out _).mono ?_
    rintro r w1 ⟨rfl, hb1⟩
    have hs1 : w.heap.size < w1.heap.size := by have := hb1.size; simp at this; omega
    have hr1 : RowAt w1 w.heap.size 25 _ := (RowAt.new w _ _).below hb1 (by simp)
    have hc1 := hr1.cell
    go_wp2_with fail
    refine (C2.out _).mono ?_
    rintro r w2 ⟨rfl, hb2⟩
    have hs2 : w1.heap.size < w2.heap.size := by have := hb2.size; simp at this; omega
    have hr2 : RowAt w2 w.heap.size 25 _ := (hr1.alloc _).below hb2 (by simp; omega)
    have hl2 : RowAt w2 w1.heap.size 48 #[.int .u8 1, .int .i64 16, .int .i64 2048, .int .i64 0] := (RowAt.new w1 _ _).below hb2 (by simp)
    have hc2 := hr2.cell
    have hm2 := hl2.cell
    have hs3 : w.heap.size < w2.heap.size := by omega
    have b1 : Below w.heap.size w w1 := ((Below.refl _ _).alloc (Nat.le_refl _) _).trans (hb1.mono (by simp))
    have b2 : Below w.heap.size w w2 := (b1.alloc b1.size _).trans (hb2.mono (by simp; omega))
    go_wp2_with fail
    go_ret
    exact ⟨rfl, b2.alloc b2.size _⟩
  · obtain rfl : bv = true := by rw [hbv]; simp
    clear hbv
    go_enter Try.func13, Try.ntmps13
    go_wp2_with fail
    refine (C1.out _).mono ?_
    rintro r w1 ⟨rfl, hb1⟩
    have hs1 : w.heap.size < w1.heap.size := by have := hb1.size; simp at this; omega
    have hr1 : RowAt w1 w.heap.size 25 _ := (RowAt.new w _ _).below hb1 (by simp)
    have hc1 := hr1.cell
    go_wp2_with fail
    refine (C2.out _).mono ?_
    rintro r w2 ⟨rfl, hb2⟩
    have hs2 : w1.heap.size < w2.heap.size := by have := hb2.size; simp at this; omega
    have hr2 : RowAt w2 w.heap.size 25 _ := (hr1.alloc _).below hb2 (by simp; omega)
    have hl2 : RowAt w2 w1.heap.size 48 #[.int .u8 1, .int .i64 16, .int .i64 2048, .int .i64 0] := (RowAt.new w1 _ _).below hb2 (by simp)
    have hc2 := hr2.cell
    have hm2 := hl2.cell
    have hs3 : w.heap.size < w2.heap.size := by omega
    have b1 : Below w.heap.size w w1 := ((Below.refl _ _).alloc (Nat.le_refl _) _).trans (hb1.mono (by simp))
    have b2 : Below w.heap.size w w2 := (b1.alloc b1.size _).trans (hb2.mono (by simp; omega))
    go_wp2_with fail
    go_ret
    exact ⟨rfl, b2.alloc b2.size _⟩

set_option maxHeartbeats 4000000 in
theorem valid_two (x : Sec) (w : World) (hd : x.data.size ≤ 9223372036854775807) (hm : x.mode = 1 ∨ x.mode = 2) (h1 : -150 ≤ x.lba) (h2 : x.lba ≤ 449849) (h3 : (x.data.size : Int) = lCap x.mode) :
    Calls Try.prog 13 #[secV x] w fun e w' => e = .returned (.bool (subOk x)) ∧ Below w.heap.size w w' := by
  obtain ⟨lba, mode, fi, ch, su, co, data⟩ := x
  dsimp only at *
  have C1 := Lib.hid (fun w => layouts_ok mode w (modeOk_iff.2 (by omega)))
  rw [layV] at C1
  have C2 := Lib.hid (fun w => tomsf_ok lba w h1 h2)
  have hsz : ((data.size : Int) != lCap mode) = false := by rw [h3]; simp
  have hm0 : (mode == 0) = false := by rw [beq_eq_false_iff_ne]; omega
  have hbv : subOk ⟨lba, mode, fi, ch, su, co, data⟩ = (btw fi 255 && btw ch 31 && btw su 255 && btw co 255 && decide (su / 32 % 2 = 1 ↔ mode = 2)) := if_neg (by dsimp only; omega)
  have B1 := Lib.hid (fun w => between_any fi 255 w)
  have B2 := Lib.hid (fun w => between_any ch 31 w)
  have B3 := Lib.hid (fun w => between_any su 255 w)
  have B4 := Lib.hid (fun w => between_any co 255 w)
  have hsu : btw su 255 = true → bits .and .i64 su 32 = if su / 32 % 2 = 1 then 32 else 0 := fun h => and32 (btw_iff.1 h).1 (btw_iff.1 h).2
  rw [secV]
  rw [msfV] at C2
  generalize (lba + 150) / 75 / 60 = m0 at *
  generalize (lba + 150) / 75 % 60 = m1 at *
  generalize (lba + 150) % 75 = m2 at *
  generalize lData mode = l1 at *
  generalize lCap mode = l2 at *
  generalize lByte mode = l0 at *
  generalize lCov mode = l3 at *
  generalize subOk ⟨lba, mode, fi, ch, su, co, data⟩ = bv at *
  generalize btw fi 255 = b1 at *
  generalize btw ch 31 = b2 at *
  generalize btw su 255 = b3 at *
  generalize btw co 255 = b4 at *
  obtain ⟨tw, htw⟩ : ∃ tw, (mode == 2) = tw := ⟨_, rfl⟩
  have hbv2 : bv = (b1 && b2 && b3 && b4 && (decide (su / 32 % 2 = 1) == tw)) := by
    rw [hbv, ← htw]
    congr 1
    by_cases a : su / 32 % 2 = 1 <;> by_cases b : mode = 2 <;> simp [a, b]
  clear h3 hbv hm
  have hcs : (b1 = false) ∨ (b1 = true ∧ b2 = false) ∨ (b1 = true ∧ b2 = true ∧ b3 = false) ∨ (b1 = true ∧ b2 = true ∧ b3 = true ∧ b4 = false) ∨ (b1 = true ∧ b2 = true ∧ b3 = true ∧ b4 = true) := by
    cases b1 <;> cases b2 <;> cases b3 <;> cases b4 <;> simp
  rcases hcs with rfl | ⟨rfl, rfl⟩ | ⟨rfl, rfl, rfl⟩ | ⟨rfl, rfl, rfl, rfl⟩ | ⟨rfl, rfl, rfl, rfl⟩
  · obtain rfl : bv = false := by rw [hbv2]; simp
    clear hbv2 hsu
    go_enter Try.func13, Try.ntmps13
    go_wp2_with fail
    refine (C1.out _).mono ?_
    rintro r w1 ⟨rfl, hb1⟩
    have hs1 : w.heap.size < w1.heap.size := by have := hb1.size; simp at this; omega
    have hr1 : RowAt w1 w.heap.size 25 _ := (RowAt.new w _ _).below hb1 (by simp)
    have hc1 := hr1.cell
    go_wp2_with fail
    refine (C2.out _).mono ?_
    rintro r w2 ⟨rfl, hb2⟩
    have hs2 : w1.heap.size < w2.heap.size := by have := hb2.size; simp at this; omega
    have hr2 : RowAt w2 w.heap.size 25 _ := (hr1.alloc _).below hb2 (by simp; omega)
    have hl2 : RowAt w2 w1.heap.size 48 #[.int .u8 l0, .int .i64 l1, .int .i64 l2, .int .i64 l3] := (RowAt.new w1 _ _).below hb2 (by simp)
    have hc2 := hr2.cell
    have hm2 := hl2.cell
    have hs3 : w.heap.size < w2.heap.size := by omega
    have bw1 : Below w.heap.size w w1 := ((Below.refl _ _).alloc (Nat.le_refl _) _).trans (hb1.mono (by simp))
    have bw2 : Below w.heap.size w w2 := (bw1.alloc bw1.size _).trans (hb2.mono (by simp; omega))
    go_wp2_with fail
    refine (B1.out _).mono ?_
    rintro r w' ⟨rfl, rfl⟩
    go_wp2_with fail
    go_ret
    exact ⟨rfl, (bw2.alloc bw2.size _).alloc (by have := bw2.size; simp; omega) _⟩
  · obtain rfl : bv = false := by rw [hbv2]; simp
    clear hbv2 hsu
    go_enter Try.func13, Try.ntmps13
    go_wp2_with fail
    refine (C1.out _).mono ?_
    rintro r w1 ⟨rfl, hb1⟩
    have hs1 : w.heap.size < w1.heap.size := by have := hb1.size; simp at this; omega
    have hr1 : RowAt w1 w.heap.size 25 _ := (RowAt.new w _ _).below hb1 (by simp)
    have hc1 := hr1.cell
    go_wp2_with fail
    refine (C2.out _).mono ?_
    rintro r w2 ⟨rfl, hb2⟩
    have hs2 : w1.heap.size < w2.heap.size := by have := hb2.size; simp at this; omega
    have hr2 : RowAt w2 w.heap.size 25 _ := (hr1.alloc _).below hb2 (by simp; omega)
    have hl2 : RowAt w2 w1.heap.size 48 #[.int .u8 l0, .int .i64 l1, .int .i64 l2, .int .i64 l3] := (RowAt.new w1 _ _).below hb2 (by simp)
    have hc2 := hr2.cell
    have hm2 := hl2.cell
    have hs3 : w.heap.size < w2.heap.size := by omega
    have bw1 : Below w.heap.size w w1 := ((Below.refl _ _).alloc (Nat.le_refl _) _).trans (hb1.mono (by simp))
    have bw2 : Below w.heap.size w w2 := (bw1.alloc bw1.size _).trans (hb2.mono (by simp; omega))
    go_wp2_with fail
    refine (B1.out _).mono ?_
    rintro r w' ⟨rfl, rfl⟩
    go_wp2_with fail
    refine (B2.out _).mono ?_
    rintro r w' ⟨rfl, rfl⟩
    go_wp2_with fail
    go_ret
    exact ⟨rfl, (bw2.alloc bw2.size _).alloc (by have := bw2.size; simp; omega) _⟩
  · obtain rfl : bv = false := by rw [hbv2]; simp
    clear hbv2 hsu
    go_enter Try.func13, Try.ntmps13
    go_wp2_with fail
    refine (C1.out _).mono ?_
    rintro r w1 ⟨rfl, hb1⟩
    have hs1 : w.heap.size < w1.heap.size := by have := hb1.size; simp at this; omega
    have hr1 : RowAt w1 w.heap.size 25 _ := (RowAt.new w _ _).below hb1 (by simp)
    have hc1 := hr1.cell
    go_wp2_with fail
    refine (C2.out _).mono ?_
    rintro r w2 ⟨rfl, hb2⟩
    have hs2 : w1.heap.size < w2.heap.size := by have := hb2.size; simp at this; omega
    have hr2 : RowAt w2 w.heap.size 25 _ := (hr1.alloc _).below hb2 (by simp; omega)
    have hl2 : RowAt w2 w1.heap.size 48 #[.int .u8 l0, .int .i64 l1, .int .i64 l2, .int .i64 l3] := (RowAt.new w1 _ _).below hb2 (by simp)
    have hc2 := hr2.cell
    have hm2 := hl2.cell
    have hs3 : w.heap.size < w2.heap.size := by omega
    have bw1 : Below w.heap.size w w1 := ((Below.refl _ _).alloc (Nat.le_refl _) _).trans (hb1.mono (by simp))
    have bw2 : Below w.heap.size w w2 := (bw1.alloc bw1.size _).trans (hb2.mono (by simp; omega))
    go_wp2_with fail
    refine (B1.out _).mono ?_
    rintro r w' ⟨rfl, rfl⟩
    go_wp2_with fail
    refine (B2.out _).mono ?_
    rintro r w' ⟨rfl, rfl⟩
    go_wp2_with fail
    refine (B3.out _).mono ?_
    rintro r w' ⟨rfl, rfl⟩
    go_wp2_with fail
    go_ret
    exact ⟨rfl, (bw2.alloc bw2.size _).alloc (by have := bw2.size; simp; omega) _⟩
  · obtain rfl : bv = false := by rw [hbv2]; simp
    clear hbv2 hsu
    go_enter Try.func13, Try.ntmps13
    go_wp2_with fail
    refine (C1.out _).mono ?_
    rintro r w1 ⟨rfl, hb1⟩
    have hs1 : w.heap.size < w1.heap.size := by have := hb1.size; simp at this; omega
    have hr1 : RowAt w1 w.heap.size 25 _ := (RowAt.new w _ _).below hb1 (by simp)
    have hc1 := hr1.cell
    go_wp2_with fail
    refine (C2.out _).mono ?_
    rintro r w2 ⟨rfl, hb2⟩
    have hs2 : w1.heap.size < w2.heap.size := by have := hb2.size; simp at this; omega
    have hr2 : RowAt w2 w.heap.size 25 _ := (hr1.alloc _).below hb2 (by simp; omega)
    have hl2 : RowAt w2 w1.heap.size 48 #[.int .u8 l0, .int .i64 l1, .int .i64 l2, .int .i64 l3] := (RowAt.new w1 _ _).below hb2 (by simp)
    have hc2 := hr2.cell
    have hm2 := hl2.cell
    have hs3 : w.heap.size < w2.heap.size := by omega
    have bw1 : Below w.heap.size w w1 := ((Below.refl _ _).alloc (Nat.le_refl _) _).trans (hb1.mono (by simp))
    have bw2 : Below w.heap.size w w2 := (bw1.alloc bw1.size _).trans (hb2.mono (by simp; omega))
    go_wp2_with fail
    refine (B1.out _).mono ?_
    rintro r w' ⟨rfl, rfl⟩
    go_wp2_with fail
    refine (B2.out _).mono ?_
    rintro r w' ⟨rfl, rfl⟩
    go_wp2_with fail
    refine (B3.out _).mono ?_
    rintro r w' ⟨rfl, rfl⟩
    go_wp2_with fail
    refine (B4.out _).mono ?_
    rintro r w' ⟨rfl, rfl⟩
    go_wp2_with fail
    go_ret
    exact ⟨rfl, (bw2.alloc bw2.size _).alloc (by have := bw2.size; simp; omega) _⟩
  · have hand := hsu rfl
    by_cases hbit : su / 32 % 2 = 1
    · rw [if_pos hbit] at hand
      have HBV : Hid (bv = (true == tw)) := by rw [hbv2, decide_eq_true hbit]; exact (by simp : (true && true && true && true && (true == tw)) = (true == tw))
      clear hbv2 hsu
      go_enter Try.func13, Try.ntmps13
      go_wp2_with fail
      refine (C1.out _).mono ?_
      rintro r w1 ⟨rfl, hb1⟩
      have hs1 : w.heap.size < w1.heap.size := by have := hb1.size; simp at this; omega
      have hr1 : RowAt w1 w.heap.size 25 _ := (RowAt.new w _ _).below hb1 (by simp)
      have hc1 := hr1.cell
      go_wp2_with fail
      refine (C2.out _).mono ?_
      rintro r w2 ⟨rfl, hb2⟩
      have hs2 : w1.heap.size < w2.heap.size := by have := hb2.size; simp at this; omega
      have hr2 : RowAt w2 w.heap.size 25 _ := (hr1.alloc _).below hb2 (by simp; omega)
      have hl2 : RowAt w2 w1.heap.size 48 #[.int .u8 l0, .int .i64 l1, .int .i64 l2, .int .i64 l3] := (RowAt.new w1 _ _).below hb2 (by simp)
      have hc2 := hr2.cell
      have hm2 := hl2.cell
      have hs3 : w.heap.size < w2.heap.size := by omega
      have bw1 : Below w.heap.size w w1 := ((Below.refl _ _).alloc (Nat.le_refl _) _).trans (hb1.mono (by simp))
      have bw2 : Below w.heap.size w w2 := (bw1.alloc bw1.size _).trans (hb2.mono (by simp; omega))
      go_wp2_with fail
      refine (B1.out _).mono ?_
      rintro r w' ⟨rfl, rfl⟩
      go_wp2_with fail
      refine (B2.out _).mono ?_
      rintro r w' ⟨rfl, rfl⟩
      go_wp2_with fail
      refine (B3.out _).mono ?_
      rintro r w' ⟨rfl, rfl⟩
      go_wp2_with fail
      refine (B4.out _).mono ?_
      rintro r w' ⟨rfl, rfl⟩
      go_wp2_with fail
      go_ret
      exact ⟨ret_bool (by rw [HBV.out]; cases tw <;> simp), (bw2.alloc bw2.size _).alloc (by have := bw2.size; simp; omega) _⟩
    · rw [if_neg hbit] at hand
      have HBV : Hid (bv = (false == tw)) := by rw [hbv2, decide_eq_false hbit]; exact (by simp : (true && true && true && true && (false == tw)) = (false == tw))
      clear hbv2 hsu
      go_enter Try.func13, Try.ntmps13
      go_wp2_with fail
      refine (C1.out _).mono ?_
      rintro r w1 ⟨rfl, hb1⟩
      have hs1 : w.heap.size < w1.heap.size := by have := hb1.size; simp at this; omega
      have hr1 : RowAt w1 w.heap.size 25 _ := (RowAt.new w _ _).below hb1 (by simp)
      have hc1 := hr1.cell
      go_wp2_with fail
      refine (C2.out _).mono ?_
      rintro r w2 ⟨rfl, hb2⟩
      have hs2 : w1.heap.size < w2.heap.size := by have := hb2.size; simp at this; omega
      have hr2 : RowAt w2 w.heap.size 25 _ := (hr1.alloc _).below hb2 (by simp; omega)
      have hl2 : RowAt w2 w1.heap.size 48 #[.int .u8 l0, .int .i64 l1, .int .i64 l2, .int .i64 l3] := (RowAt.new w1 _ _).below hb2 (by simp)
      have hc2 := hr2.cell
      have hm2 := hl2.cell
      have hs3 : w.heap.size < w2.heap.size := by omega
      have bw1 : Below w.heap.size w w1 := ((Below.refl _ _).alloc (Nat.le_refl _) _).trans (hb1.mono (by simp))
      have bw2 : Below w.heap.size w w2 := (bw1.alloc bw1.size _).trans (hb2.mono (by simp; omega))
      go_wp2_with fail
      refine (B1.out _).mono ?_
      rintro r w' ⟨rfl, rfl⟩
      go_wp2_with fail
      refine (B2.out _).mono ?_
      rintro r w' ⟨rfl, rfl⟩
      go_wp2_with fail
      refine (B3.out _).mono ?_
      rintro r w' ⟨rfl, rfl⟩
      go_wp2_with fail
      refine (B4.out _).mono ?_
      rintro r w' ⟨rfl, rfl⟩
      go_wp2_with fail
      go_ret
      exact ⟨ret_bool (by rw [HBV.out]; cases tw <;> simp), (bw2.alloc bw2.size _).alloc (by have := bw2.size; simp; omega) _⟩
end Go.Proofs.Ytdjpnabkmanboaa
