/-
  The walk of the law SectorReturns.
-/
import Derived.Test.YtdjpnabkmanboaaParseAny
import Derived.Test.YtdjpnabkmanboaaPlain
import Derived.Test.YtdjpnabkmanboaaOpen
import Derived.Deep.CutRange
import Derived.Deep.RegionWith
namespace Go.Proofs.Ytdjpnabkmanboaa
open Go.RowKit
set_option linter.unusedVariables false

def secA (x : Sec) : Array Value := #[.int .i64 x.lba, .int .i64 x.mode, .int .i64 x.fi, .int .i64 x.ch, .int .i64 x.su, .int .i64 x.co, .string x.data]

set_option maxHeartbeats 1000000 in
theorem returns_no (x : Sec) (p : Int) (w : World) (hx : SecIn x) (hv : validB x = false) :
    Calls Try.prog 7 #[secV x, .int .u8 p] w fun e w' => e = .returned (.bool true) ∧ Below w.heap.size w w' := by
  have C0 := Lib.hid (fun w => awake_any w)
  have C1 : Hid (∀ w, Calls Try.prog 11 #[secV x] w fun e w' => e = .returned (.tuple #[.string ⟨#[]⟩, .int .i64 1]) ∧ Below w.heap.size w w') := by
    have := fun w => build_any x w hx.lba.1 hx.data
    rwa [show buildR x = _ from if_neg (by simp [hv])] at this
  have C2 : Hid (∀ w, Calls Try.prog 13 #[secV x] w fun e w' => e = .returned (.bool false) ∧ Below w.heap.size w w') := by
    have := fun w => valid7_any x w hx.lba.1 hx.data
    rwa [hv] at this
  clear hv hx
  obtain ⟨lba, mode, fi, ch, su, co, data⟩ := x
  rw [secV] at *
  dsimp only at *
  go_enter Try.func7, Try.ntmps7
  go_wp2_with fail
  refine (C0.out _).mono ?_
  rintro r w1 ⟨rfl, hb1⟩
  have h1 := St.call hb1 ((St.start w).alloc _ _)
  have q1 := (h1.at (i := 0) rfl).cell
  clear hb1
  go_wp2_with fail
  refine (C1.out _).mono ?_
  rintro r w2 ⟨rfl, hb2⟩
  have h2 := St.call hb2 h1
  clear hb2 h1 q1
  have q2 := (h2.at (i := 0) rfl).cell
  go_wp2_with fail
  refine (C2.out _).mono ?_
  rintro r w3 ⟨rfl, hb3⟩
  have h3 := St.call hb3 h2
  clear hb3 h2 q2
  go_wp2_with fail
  go_ret
  exact ⟨rfl, h3.bel⟩

set_option maxHeartbeats 2000000 in
theorem returns_go (x : Sec) (p : Int) (w : World) (hx : SecIn x) (hv : validB x = true) (hp0 : 0 ≤ p) (hp1 : p ≤ 255) :
    Calls Try.prog 7 #[secV x, .int .u8 p] w fun e w' => e = .returned (.bool true) ∧ Below w.heap.size w w' := by
  have C0 := Lib.hid (fun w => awake_any w)
  have C1 : Hid (∀ w, Calls Try.prog 11 #[secV x] w fun e w' => e = .returned (.tuple #[.string ⟨(buildL x).toArray⟩, .int .i64 0]) ∧ Below w.heap.size w w') := by
    have := fun w => build_any x w hx.lba.1 hx.data
    rwa [show buildR x = _ from if_pos hv] at this
  have C2 : Hid (∀ w, Calls Try.prog 13 #[secV x] w fun e w' => e = .returned (.bool true) ∧ Below w.heap.size w w') := by
    have := fun w => valid7_any x w hx.lba.1 hx.data
    rwa [hv] at this
  have hzB : (⟨(buildL x).toArray⟩ : ByteArray).size = 2352 := by rw [str_size, build_len hv]
  have C3 := Lib.hid (fun w => check_any ⟨(buildL x).toArray⟩ w (by omega))
  rw [chk_build hv] at C3
  obtain ⟨bp, hbp⟩ : ∃ b : UInt8, b = UInt8.ofNat p.toNat := ⟨_, rfl⟩
  have hbv : Value.int .u8 p = byteV bp := by
    rw [hbp]
    unfold byteV
    congr 1
    simp
    omega
  have hcv : ∀ w' : World, (convert 42 9 (.slice (some ⟨w'.heap.size, 0, none⟩) 1 1)).run Try.prog (w'.alloc (.cells #[.int .u8 p] 5)) = .ok (.string ⟨#[bp]⟩) (w'.alloc (.cells #[.int .u8 p] 5)) := fun w' =>
    own_lit _ [bp] #[.int .u8 p] 1 rfl (by rw [hbv]; rfl) (by unfold maxLen; omega) _ _ (RowAt.new _ _ _)
  have hcd : ∀ w' : World, (convert 42 9 (.slice (some ⟨w'.heap.size, 0, none⟩) 1 1)).run Try.prog (w'.alloc (.cells #[.int .u8 p] 5)).drew = .ok (.string ⟨#[bp]⟩) (w'.alloc (.cells #[.int .u8 p] 5)).drew := fun w' =>
    own_lit _ [bp] #[.int .u8 p] 1 rfl (by rw [hbv]; rfl) (by unfold maxLen; omega) _ _ ((RowAt.new _ _ _ : RowAt (w'.alloc (.cells #[.int .u8 p] 5)) _ _ _))
  have C4 : Hid (∀ w, Calls Try.prog 25 #[.string ⟨#[bp]⟩, .int .i64 276] w fun e w' => e = .returned (.string ⟨(Lib.repeatL [bp] 276).toArray⟩) ∧ Below w.heap.size w w') := fun w => Try.strings_Repeat ⟨#[bp]⟩ 276 w (by omega) (by show 1 * 276 ≤ _; omega)
  have hzR : (⟨(Lib.repeatL [bp] 276).toArray⟩ : ByteArray).size = 276 := by rw [str_size, Lib.repeatL_length]; rfl
  have hback : x.mode ≠ 2 → kindR ((⟨(buildL x).toArray⟩ : ByteArray).extract 0 2076 ++ ⟨(Lib.repeatL [bp] 276).toArray⟩) = (x.mode, 0) ∧ parseV ((⟨(buildL x).toArray⟩ : ByteArray).extract 0 2076 ++ ⟨(Lib.repeatL [bp] 276).toArray⟩) = .tuple #[secV x, .int .i64 0] := by
    intro hm
    have hl := build_len hv
    refine back_build hv ?_ ?_
    · rw [ByteArray.size_append, hzR]
      simp
      omega
    · rw [show lTop x.mode = 2076 from if_neg hm, ByteArray.data_append, Array.toList_append, sub_extract, list_str, List.drop_zero, List.take_append_of_le_length (by rw [List.length_take]; omega), List.take_take]
      rfl
  have hself : kindR ⟨(buildL x).toArray⟩ = (x.mode, 0) ∧ parseV ⟨(buildL x).toArray⟩ = .tuple #[secV x, .int .i64 0] := back_build hv hzB (by rw [list_str])
  obtain ⟨S, hS, hSz, hk, hpv⟩ : ∃ S : ByteArray, S = (if x.mode = 2 then ⟨(buildL x).toArray⟩ else (⟨(buildL x).toArray⟩ : ByteArray).extract 0 2076 ++ ⟨(Lib.repeatL [bp] 276).toArray⟩) ∧ S.size = 2352 ∧ kindR S = (x.mode, 0) ∧ parseV S = .tuple #[secV x, .int .i64 0] := by
    refine ⟨_, rfl, ?_⟩
    by_cases hm : x.mode = 2
    · rw [if_pos hm]
      exact ⟨hzB, hself⟩
    · rw [if_neg hm]
      refine ⟨?_, hback hm⟩
      have hl := build_len hv
      rw [ByteArray.size_append, hzR]
      simp
      omega
  have C5 := Lib.hid (fun w => kind_any S w (by omega))
  have C6 := Lib.hid (fun w => parse_any S w (by omega))
  rw [hk] at C5
  rw [hpv] at C6
  have HS := Lib.hid hS
  clear hback hself hk hpv hS hv hbv hbp hx
  generalize (⟨(buildL x).toArray⟩ : ByteArray) = B at *
  generalize (⟨(Lib.repeatL [bp] 276).toArray⟩ : ByteArray) = RP at *
  obtain ⟨lba, mode, fi, ch, su, co, data⟩ := x
  rw [secV] at *
  dsimp only at *
  have z1 : ((B.size : Int) != 2352) = false := by rw [hzB]; rfl
  have z2 : (2076 : Int) ≤ (B.size : Int) := by omega
  go_enter Try.func7, Try.ntmps7
  go_wp2_with fail
  refine (C0.out _).mono ?_
  rintro r w1 ⟨rfl, hb1⟩
  have h1 := St.call hb1 ((St.start w).alloc _ _)
  have q1 := (h1.at (i := 0) rfl).cell
  clear hb1
  go_wp2_with fail
  refine (C1.out _).mono ?_
  rintro r w2 ⟨rfl, hb2⟩
  have h2 := St.call hb2 h1
  clear hb2 h1 q1
  have q2 := (h2.at (i := 0) rfl).cell
  go_wp2_with fail
  refine (C2.out _).mono ?_
  rintro r w3 ⟨rfl, hb3⟩
  have h3 := St.call hb3 h2
  clear hb3 h2 q2
  go_wp2_with fail
  refine (C3.out _).mono ?_
  rintro r w4 ⟨rfl, hb4⟩
  have h4 := St.call hb4 h3
  clear hb4 h3
  have q4 := (h4.at (i := 0) rfl).cell
  go_upto_if 41 with fail
  go_cut [5] from 41 to 48 (fun v wx => v = .string S ∧ St w wx [(w.heap.size, 25, #[.int .i64 lba, .int .i64 mode, .int .i64 fi, .int .i64 ch, .int .i64 su, .int .i64 co, .string data])])
  case first =>
    by_cases hm : mode = 2
    · subst hm
      go_wp2_with fail
      go_meet
      exact ⟨by rw [HS.out]; simp, h4⟩
    · have hm' : (mode != 2) = true := by rw [bne_iff_ne]; exact hm
      have h4a := (h4.other (.cells #[.int .u8 p] 5)).drew
      go_wp2_with fail
      go_region_with ((go_at_call 25; refine (C4.out _).mono ?_; rintro e w5 ⟨rfl, hb5⟩; with_reducible have z := St.call hb5 h4a))
      all_goals
        go_wp2_with fail
        go_meet
        exact ⟨by rw [HS.out, if_neg hm], z⟩
  case rest =>
    clear h4 q4
    obtain ⟨rfl, h5⟩ := hcut
    have q5 := (h5.at (i := 0) rfl).cell
    go_wp2_with fail
    refine (C5.out _).mono ?_
    rintro r w6 ⟨rfl, rfl⟩
    go_wp2_with fail
    refine (C6.out _).mono ?_
    rintro r w7 ⟨rfl, hb7⟩
    have h7 := St.call hb7 h5
    have q7 := (h7.at (i := 0) rfl).cell
    have l7 := h7.lt (i := 0) rfl
    clear hb7 h5 q5
    go_wp2_with fail
    go_ret
    exact ⟨rfl, (h7.other _).bel⟩

theorem returns_walk (x : Sec) (p : Int) (w : World) (hx : SecIn x) (hp : (Lit.int IntKind.u8 p).wf = true) :
    Calls Try.prog 7 #[secV x, .int .u8 p] w fun e w' => e = .returned (.bool true) ∧ Below w.heap.size w w' := by
  obtain ⟨p0, p1⟩ := wf_u8 hp
  cases hv : validB x with
  | false => exact returns_no x p w hx hv
  | true => exact returns_go x p w hx hv p0 p1
end Go.Proofs.Ytdjpnabkmanboaa
