/-
  Build of the reference; Build of the program at contents that are not valid.
-/
import Derived.Test.YtdjpnabkmanboaaMake2
import Derived.Deep.RegionHeld3
import Derived.Deep.DrawnRows
namespace Go.Proofs.Ytdjpnabkmanboaa
open Go.RowKit
set_option linter.unusedVariables false
attribute [local go_sem ↓] Go.wp_at_zero Go.wp_at_succ

theorem build_no (x : Sec) (w : World) (hn : -9223372036854775808 ≤ x.lba) (hd : x.data.size ≤ 9223372036854775807) (hv : validB x = false) :
    Calls Try.prog 11 #[secV x] w fun e w' => e = .returned (.tuple #[.string ⟨#[]⟩, .int .i64 1]) ∧ Below w.heap.size w w' := by
  have CV : Hid (∀ w, Calls Try.prog 13 #[secV x] w fun e w' => e = .returned (.bool false) ∧ Below w.heap.size w w') := by
    have := fun w => valid7_any x w hn hd
    rwa [hv] at this
  obtain ⟨lba, mode, fi, ch, su, co, data⟩ := x
  rw [secV] at CV ⊢
  clear hv
  go_enter Try.func11, Try.ntmps11
  go_wp2_with fail
  refine (CV.out _).mono ?_
  rintro r w1 ⟨rfl, hb1⟩
  go_wp2_with fail
  go_ret2
  exact ⟨rfl, ((Below.refl _ _).alloc (Nat.le_refl _) _).trans (hb1.mono (by simp))⟩
theorem rbuild_no (x : Sec) (w : World) (hd : x.data.size ≤ 9223372036854775807) (hv : validB x = false) :
    Calls Try.prog 12 #[secV x] w fun e w' => e = .returned (.tuple #[.string ⟨#[]⟩, .int .i64 1]) ∧ Below w.heap.size w w' := by
  have CV : Hid (∀ w, Calls Try.prog 14 #[secV x] w fun e w' => e = .returned (.bool false) ∧ Below w.heap.size w w') := by
    have := fun w => rvalid7_any x w hd
    rwa [hv] at this
  obtain ⟨lba, mode, fi, ch, su, co, data⟩ := x
  rw [secV] at CV ⊢
  clear hv
  go_enter Try.func12, Try.ntmps12
  go_wp2_with fail
  refine (CV.out _).mono ?_
  rintro r w1 ⟨rfl, hb1⟩
  go_wp2_with fail
  go_ret2
  exact ⟨rfl, ((Below.refl _ _).alloc (Nat.le_refl _) _).trans (hb1.mono (by simp))⟩

theorem keepS {w0 W w1 : World} {p : Addr} {v : Value} (hb : Below W.heap.size W w1) (h0 : W.cell? p = some v) (hg : p.block < W.heap.size) (hB : Below w0.heap.size w0 W) :
    w1.cell? p = some v ∧ p.block < w1.heap.size ∧ Below w0.heap.size w0 w1 :=
  ⟨(hb.cell (p := p) hg).trans h0, Nat.lt_of_lt_of_le hg hb.size, hB.trans (hb.mono hB.size)⟩

set_option maxRecDepth 100000 in
set_option maxHeartbeats 4000000 in
theorem rbuild_one (x : Sec) (w : World) (hv : validB x = true) (hm : x.mode = 0) (h1 : -150 ≤ x.lba) (h2 : x.lba ≤ 449849) (h3 : x.data.size = 2048) :
    Calls Try.prog 12 #[secV x] w fun e w' => e = .returned (.tuple #[.string ⟨(buildL x).toArray⟩, .int .i64 0]) ∧ Below w.heap.size w w' := by
  have CV : Hid (∀ w, Calls Try.prog 14 #[secV x] w fun e w' => e = .returned (.bool true) ∧ Below w.heap.size w w') := by
    have := fun w => rvalid7_any x w (by omega)
    rwa [hv] at this
  obtain ⟨lba, mode, fi, ch, su, co, data⟩ := x
  dsimp only at *
  subst hm
  have C2 := Lib.hid (fun w => rtomsf_ok lba w h1 h2)
  have hok := msfN_ok (n := lba + 150) (by omega) (by omega)
  have C3 := Lib.hid (fun w => rencode_any ((lba + 150) / 75 / 60) ((lba + 150) / 75 % 60) ((lba + 150) % 75) w hok)
  have C4 := Lib.hid (fun w => rsync_any w)
  have hml : (msfBs ((lba + 150) / 75 / 60) ((lba + 150) / 75 % 60) ((lba + 150) % 75)).length = 3 := rfl
  have hdd : (⟨data.data.toList.toArray⟩ : ByteArray) = data := by simp
  have hpre : preL ⟨lba, 0, fi, ch, su, co, data⟩ = syncL ++ msfBs ((lba + 150) / 75 / 60) ((lba + 150) / 75 % 60) ((lba + 150) % 75) ++ [1] ++ data.data.toList := rfl
  have hcd : codedL ⟨lba, 0, fi, ch, su, co, data⟩ = preL ⟨lba, 0, fi, ch, su, co, data⟩ ++ codeL (preL ⟨lba, 0, fi, ch, su, co, data⟩) 0 := rfl
  have hbl : buildL ⟨lba, 0, fi, ch, su, co, data⟩ = codedL ⟨lba, 0, fi, ch, su, co, data⟩ ++ List.replicate (2352 - (codedL ⟨lba, 0, fi, ch, su, co, data⟩).length) 0 := rfl
  have hdl : data.data.toList.length = 2048 := by simpa using h3
  have hsl : syncL.length = 12 := rfl
  rw [secV] at CV ⊢
  rw [msfV] at C2 C3
  generalize preL ⟨lba, 0, fi, ch, su, co, data⟩ = PRE at *
  generalize codedL ⟨lba, 0, fi, ch, su, co, data⟩ = COD at *
  generalize buildL ⟨lba, 0, fi, ch, su, co, data⟩ = BLD at *
  generalize msfBs ((lba + 150) / 75 / 60) ((lba + 150) / 75 % 60) ((lba + 150) % 75) = MS at *
  generalize (lba + 150) / 75 / 60 = m0 at *
  generalize (lba + 150) / 75 % 60 = m1 at *
  generalize (lba + 150) % 75 = m2 at *
  generalize syncL = SY at *
  have hpl : PRE.length = 2064 := by rw [hpre]; simp only [List.length_append, List.length_cons, List.length_nil]; omega
  have hcl : (codeL PRE 0).length = 4 := rfl
  have hcl2 : COD.length = 2068 := by rw [hcd, List.length_append]; omega
  have C5 : Hid (∀ w, Calls Try.prog 35 #[.string ⟨PRE.toArray⟩, .int .i64 0] w fun e w' => e = .returned (.string ⟨(codeL PRE 0).toArray⟩) ∧ Below w.heap.size w w') := fun w => by
    have := rcode_any ⟨PRE.toArray⟩ 0 0 2064 w rfl rfl rfl (by rw [str_size]; omega) (by rw [str_size]; omega)
    rwa [show ((⟨PRE.toArray⟩ : ByteArray).data.toList.take (0 + 2064)) = PRE from List.take_of_length_le (by rw [show (⟨PRE.toArray⟩ : ByteArray).data.toList = PRE by simp]; omega)] at this
  have C6 : Hid (∀ w, Calls Try.prog 36 #[.int .u8 0, .int .i64 284] w fun e w' => e = .returned (.string ⟨(List.replicate 284 (0 : UInt8)).toArray⟩) ∧ Below w.heap.size w w') := fun w => rep_any 0 284 w (by omega)
  have hbd : BLD = COD ++ List.replicate 284 0 := by rw [hbl, hcl2]
  have hzl : (List.replicate 284 (0 : UInt8)).length = 284 := List.length_replicate
  generalize List.replicate 284 (0 : UInt8) = Z at *
  generalize codeL PRE 0 = CS at *
  have r1 : (⟨SY.toArray⟩ : ByteArray) ++ ⟨MS.toArray⟩ ++ ⟨#[1]⟩ ++ data = ⟨PRE.toArray⟩ := by
    rw [hpre, ← str_append, ← str_append, ← str_append, hdd]
  have r2 : (⟨PRE.toArray⟩ : ByteArray) ++ ⟨CS.toArray⟩ = ⟨COD.toArray⟩ := by rw [hcd, str_append]
  have r3 : (⟨COD.toArray⟩ : ByteArray) ++ ⟨Z.toArray⟩ = ⟨BLD.toArray⟩ := by rw [hbd, str_append]
  have z1 : (⟨SY.toArray⟩ : ByteArray).size ≤ 12 := by rw [str_size]; omega
  have z2 : (⟨MS.toArray⟩ : ByteArray).size ≤ 3 := by rw [str_size]; omega
  have z3 : (⟨PRE.toArray⟩ : ByteArray).size ≤ 2064 := by rw [str_size]; omega
  have z4 : (⟨CS.toArray⟩ : ByteArray).size ≤ 4 := by rw [str_size]; omega
  have z5 : (⟨COD.toArray⟩ : ByteArray).size ≤ 2068 := by rw [str_size]; omega
  have z6 : (⟨Z.toArray⟩ : ByteArray).size ≤ 284 := by rw [str_size]; omega
  have z7 : data.size ≤ 2048 := by omega
  generalize (⟨SY.toArray⟩ : ByteArray) = sSY at *
  generalize (⟨MS.toArray⟩ : ByteArray) = sMS at *
  generalize (⟨PRE.toArray⟩ : ByteArray) = sPRE at *
  generalize (⟨CS.toArray⟩ : ByteArray) = sCS at *
  generalize (⟨COD.toArray⟩ : ByteArray) = sCOD at *
  generalize (⟨Z.toArray⟩ : ByteArray) = sZ at *
  clear hok hpre hcd hbl hbd hml hdl hsl hpl hcl hcl2 hzl hdd hv h3
  go_enter Try.func12, Try.ntmps12
  go_wp2_with fail
  refine (CV.out _).mono ?_
  rintro r w1 ⟨rfl, hb1⟩
  have hs1 : w.heap.size < w1.heap.size := by have := hb1.size; simp at this; omega
  have hr1 : RowAt w1 w.heap.size 25 _ := (RowAt.new w _ _).below hb1 (by simp)
  have q1 := hr1.cell
  have b1 : Below w.heap.size w w1 := ((Below.refl _ _).alloc (Nat.le_refl _) _).trans (hb1.mono (by simp))
  go_wp2_with fail
  refine (C2.out _).mono ?_
  rintro r w2 ⟨rfl, hb2⟩
  have hs2 : w.heap.size < w2.heap.size := by have := hb2.size; omega
  have hr2 := hr1.below hb2 hs1
  have q2 := hr2.cell
  have b2 : Below w.heap.size w w2 := b1.trans (hb2.mono b1.size)
  clear q1 hr1 hb1 hb2 b1
  go_wp2_with fail
  refine (C3.out _).mono ?_
  rintro r w3 ⟨rfl, hb3⟩
  have hs3 : w.heap.size < w3.heap.size := by have := hb3.size; simp at this; omega
  have hr3 := (hr2.alloc _).below hb3 (by simp; omega)
  have q3 := hr3.cell
  have b3 : Below w.heap.size w w3 := (b2.alloc b2.size _).trans (hb3.mono (by have := b2.size; simp; omega))
  have hdc : w3.cell? ⟨w.heap.size, 6, none⟩ = some (.string data) := hr3.cell 6
  clear q2 hr2 hb3 b2
  go_wp2_with fail
  go_region_with ((go_at_call 34; refine (C4.out _).mono ?_; rintro r w4 ⟨rfl, hb4⟩; have k6 := hb4.cell (p := ⟨w.heap.size, 6, none⟩) hs3))
  all_goals
    have hr4 : RowAt w4 w.heap.size 25 _ := RowAt.below (w := w3.drew) hr3 hb4 hs3
    have q4 := hr4.cell
    have hs4 : w.heap.size < w4.heap.size := hr4.lt
    have b4 : Below w.heap.size w w4 := b3.drew.trans (hb4.mono b3.drew.size)
    clear q3 hr3 hb4 b3 r1
    go_wp2_with fail
    refine (C5.out _).mono ?_
    rintro r w5 ⟨rfl, hb5⟩
    have b5 : Below w.heap.size w w5 := b4.trans (hb5.mono b4.size)
    go_wp2_with fail
    refine (C6.out _).mono ?_
    rintro r w6 ⟨rfl, hb6⟩
    have b6 : Below w.heap.size w w6 := b5.trans (hb6.mono b5.size)
    go_wp2_with fail
    go_ret2
    exact ⟨rfl, b6⟩
end Go.Proofs.Ytdjpnabkmanboaa
