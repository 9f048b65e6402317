/-
  The walk of the law SectorCanonical.
-/
import Derived.Test.YtdjpnabkmanboaaParseAny
import Derived.Test.YtdjpnabkmanboaaPlain2
import Derived.Test.YtdjpnabkmanboaaOpen
namespace Go.Proofs.Ytdjpnabkmanboaa
open Go.RowKit
set_option linter.unusedVariables false

set_option maxHeartbeats 1000000 in
theorem canonical_skip (s : ByteArray) (w : World) (hs : s.size ≤ 9223372036854775807) (h : (2400 : Int) < (s.size : Int)) :
    Calls Try.prog 8 #[.string s] w fun e w' => e = .returned (.bool true) ∧ Below w.heap.size w w' := by
  have C0 := Lib.hid (fun w => awake_any w)
  go_enter Try.func8, Try.ntmps8
  go_wp2_with fail
  refine (C0.out _).mono ?_
  rintro r w1 ⟨rfl, hb1⟩
  go_wp2_with fail
  go_ret
  exact ⟨rfl, hb1⟩

set_option maxHeartbeats 1000000 in
theorem canonical_no (s : ByteArray) (w : World) (e : Int) (hs : s.size ≤ 2400) (he : e ≠ 0) (hf : parseV s = .tuple #[secV ⟨0, 0, 0, 0, 0, 0, ⟨#[]⟩⟩, .int .i64 e]) :
    Calls Try.prog 8 #[.string s] w fun e w' => e = .returned (.bool true) ∧ Below w.heap.size w w' := by
  have C0 := Lib.hid (fun w => awake_any w)
  have C3 := Lib.hid (fun w => parse_any s w (by omega))
  rw [hf, secV] at C3
  dsimp only at C3
  have h' : ¬ (2400 : Int) < (s.size : Int) := by omega
  have he' : (e != 0) = true := by rw [bne_iff_ne]; exact he
  clear hf hs he
  go_enter Try.func8, Try.ntmps8
  go_wp2_with fail
  refine (C0.out _).mono ?_
  rintro r w1 ⟨rfl, hb1⟩
  have h1 := St.call hb1 (St.start w)
  go_wp2_with fail
  refine (C3.out _).mono ?_
  rintro r w2 ⟨rfl, hb2⟩
  have h2 := St.call hb2 h1
  clear hb1 hb2 h1
  go_wp2_with fail
  go_ret
  exact ⟨rfl, (h2.other _).bel⟩

set_option maxHeartbeats 2000000 in
theorem canonical_go (s : ByteArray) (w : World) (m : Int) (hz : s.size = 2352) (hk : kindR s = (m, 0)) (hg : goodB s m = true) (hc : chkB s = true) (hf : parseV s = .tuple #[secV (secOf s m), .int .i64 0]) :
    Calls Try.prog 8 #[.string s] w fun e w' => e = .returned (.bool true) ∧ Below w.heap.size w w' := by
  have C0 := Lib.hid (fun w => awake_any w)
  have C3 := Lib.hid (fun w => parse_any s w (by omega))
  rw [hf] at C3
  obtain ⟨hv, htop⟩ := canon hz hk hg hc
  have hmode : (secOf s m).mode = m := by unfold secOf; split <;> rfl
  obtain ⟨hm, v1, v2, v3⟩ := valid_parts hv
  have hzB := build_len hv
  have hdz : (secOf s m).data.size ≤ 9223372036854775807 := by
    have : lCap (secOf s m).mode ≤ 2324 := by unfold lCap; split <;> omega
    omega
  have C1 : Hid (∀ w, Calls Try.prog 11 #[secV (secOf s m)] w fun e w' => e = .returned (.tuple #[.string ⟨(buildL (secOf s m)).toArray⟩, .int .i64 0]) ∧ Below w.heap.size w w') := by
    have := fun w => build_any (secOf s m) w (by omega) hdz
    rwa [show buildR (secOf s m) = _ from if_pos hv] at this
  have C2 : Hid (∀ w, Calls Try.prog 13 #[secV (secOf s m)] w fun e w' => e = .returned (.bool true) ∧ Below w.heap.size w w') := by
    have := fun w => valid7_any (secOf s m) w (by omega) hdz
    rwa [hv] at this
  have hl := size_list s
  have hall : m = 2 → (⟨(buildL (secOf s m)).toArray⟩ : ByteArray) = s := by
    intro e
    apply ba_ext
    rw [list_str]
    rw [show lTop m = 2352 from if_pos e, List.take_of_length_le (by omega), List.take_of_length_le (by omega)] at htop
    exact htop
  have hpart : m ≠ 2 → ((((⟨(buildL (secOf s m)).toArray⟩ : ByteArray).extract 0 2076).toList == (s.extract 0 2076).toList) = true) := by
    intro e
    rw [show lTop m = 2076 from if_neg e] at htop
    rw [Lib.toList_data, Lib.toList_data, sub_extract, sub_extract, list_str, htop]
    exact beq_self_eq_true _
  have hBz : (⟨(buildL (secOf s m)).toArray⟩ : ByteArray).size = 2352 := by rw [str_size]; exact hzB
  clear htop hv hzB hl hf hk hg hc v1 v2 v3 hdz hm
  generalize (⟨(buildL (secOf s m)).toArray⟩ : ByteArray) = B at *
  generalize secOf s m = x at *
  obtain ⟨lba, mode, fi, ch, su, co, data⟩ := x
  rw [secV] at *
  dsimp only at *
  subst hmode
  have h' : ¬ (2400 : Int) < (s.size : Int) := by omega
  have z1 : ((B.size : Int) != (s.size : Int)) = false := by rw [hz, hBz]; rfl
  have z2 : (2076 : Int) ≤ (B.size : Int) := by omega
  have z3 : (2076 : Int) ≤ (s.size : Int) := by omega
  have HA := Lib.hid hall
  have HP := Lib.hid hpart
  clear hall hpart hz hBz
  go_enter Try.func8, Try.ntmps8
  go_wp2_with fail
  refine (C0.out _).mono ?_
  rintro r w1 ⟨rfl, hb1⟩
  have h1 := St.call hb1 (St.start w)
  go_wp2_with fail
  refine (C3.out _).mono ?_
  rintro r w2 ⟨rfl, hb2⟩
  have h2 := St.call hb2 h1
  clear hb1 hb2 h1
  go_wp2_with fail
  refine (C1.out _).mono ?_
  rintro r w3 ⟨rfl, hb3⟩
  have h3 := St.call hb3 (h2.alloc _ _)
  have q3 := (h3.at (i := 0) rfl).cell
  clear hb3 h2
  go_wp2_with fail
  refine (C2.out _).mono ?_
  rintro r w4 ⟨rfl, hb4⟩
  have h4 := St.call hb4 h3
  have q4 := (h4.at (i := 0) rfl).cell
  clear hb4 h3 q3
  by_cases hm2 : mode = 2
  · have := HA.out hm2
    subst this
    subst hm2
    go_wp2_with fail
    go_ret
    exact ⟨rfl, h4.bel⟩
  · have hm' : (mode == 2) = false := by rw [beq_eq_false_iff_ne]; exact hm2
    have hcmp := HP.out hm2
    go_wp2_with fail
    go_quiet (fail)
    go_wp2_with fail
    go_ret
    exact ⟨rfl, below_drewN h4.bel _⟩

theorem canonical_walk (s : ByteArray) (w : World) (hs : s.size ≤ maxLen) :
    Calls Try.prog 8 #[.string s] w fun e w' => e = .returned (.bool true) ∧ Below w.heap.size w w' := by
  by_cases h : s.size ≤ 2400
  · obtain ⟨y, e, hf, hh⟩ := parse_form s
    rcases hh with ⟨rfl, m, hk, hz, hg, hc, rfl⟩ | ⟨he, rfl⟩
    · exact canonical_go s w m hz hk hg hc hf
    · exact canonical_no s w e h he hf
  · unfold maxLen at hs
    exact canonical_skip s w hs (by omega)
end Go.Proofs.Ytdjpnabkmanboaa
