/-
  What Build makes is of its kind and passes Check; the law's own watch.
-/
import Derived.Test.YtdjpnabkmanboaaCheck
import Derived.Test.YtdjpnabkmanboaaShelf
namespace Go.Proofs.Ytdjpnabkmanboaa
open Go.RowKit
set_option linter.unusedVariables false

theorem list_str (l : List UInt8) : (⟨l.toArray⟩ : ByteArray).data.toList = l := by simp
theorem build_nat {x : Sec} (h : validB x = true) : ∃ E c : Nat, lData x.mode + lCap x.mode = (E : Int) ∧ lCov x.mode = (c : Int) ∧ c ≤ 16 ∧ 2064 ≤ E ∧ E ≤ 2348 ∧ (preL x).length = E := by
  obtain ⟨h0, h1, h2, h3⟩ := valid_parts h
  obtain ⟨E, c, hE, hc, a1, a2, a3⟩ := mode_nat h0
  refine ⟨E, c, hE, hc, a1, a2, a3, ?_⟩
  have hl : x.data.data.toList.length = x.data.size := by simp
  have hh : (headL x).length = 16 := rfl
  unfold preL
  by_cases hm : x.mode = 0
  · rw [if_pos hm, List.length_append, hh, hl]
    have : lData x.mode = 16 := if_pos hm
    omega
  · rw [if_neg hm, List.length_append, List.length_append, hh, hl]
    have : lData x.mode = 24 := if_neg hm
    have h8 : (subBs x ++ subBs x).length = 8 := rfl
    omega
theorem codeL_len (l : List UInt8) (k : Nat) : (codeL l k).length = 4 := rfl
theorem build_len {x : Sec} (h : validB x = true) : (buildL x).length = 2352 := by
  obtain ⟨E, c, hE, hc, a1, a2, a3, hp⟩ := build_nat h
  have : (codedL x).length = E + 4 := by unfold codedL; rw [List.length_append, hp, codeL_len]
  unfold buildL
  rw [List.length_append, List.length_replicate]
  omega
theorem build_head (x : Sec) : ∃ r, buildL x = headL x ++ r := by
  unfold buildL codedL preL
  split
  · exact ⟨_, by simp only [List.append_assoc]; rfl⟩
  · exact ⟨_, by simp only [List.append_assoc]; rfl⟩
theorem build_sub (x : Sec) (h : x.mode ≠ 0) : ∃ r, buildL x = (headL x ++ (subBs x ++ subBs x)) ++ r := by
  unfold buildL codedL preL
  rw [if_neg h]
  exact ⟨_, by simp only [List.append_assoc]; rfl⟩
theorem byte_at {s : ByteArray} {i : Nat} {b : UInt8} (hi : i < s.size) (h : s.data.toList[i]? = some b) : s[i] = b := by
  rw [bcell? s i hi] at h
  exact Option.some.inj h
theorem kind_build {x : Sec} (h : validB x = true) : kindR ⟨(buildL x).toArray⟩ = (x.mode, 0) := by
  obtain ⟨h0, h1, h2, h3⟩ := valid_parts h
  have hs : (⟨(buildL x).toArray⟩ : ByteArray).size = 2352 := by rw [str_size, build_len h]
  have hl := list_str (buildL x)
  have hb : subOk x = true := by
    unfold validB at h
    simp only [Bool.and_eq_true] at h
    exact h.2
  obtain ⟨r, hr⟩ := build_head x
  have b15 : (⟨(buildL x).toArray⟩ : ByteArray)[15]'(by omega) = UInt8.ofNat (lByte x.mode).toNat := by
    refine byte_at _ ?_
    rw [hl, hr]
    rw [List.getElem?_append_left (by have : (headL x).length = 16 := rfl; omega)]
    rfl
  unfold kindR
  rw [dif_pos hs, b15]
  by_cases hm : x.mode = 0
  · rw [show lByte x.mode = 1 from if_pos hm, hm]
    rfl
  · rw [show lByte x.mode = 2 from if_neg hm]
    obtain ⟨r2, hr2⟩ := build_sub x hm
    have b18 : (⟨(buildL x).toArray⟩ : ByteArray)[18]'(by omega) = UInt8.ofNat x.su.toNat := by
      refine byte_at _ ?_
      rw [hl, hr2]
      rw [List.getElem?_append_left (by have : (headL x ++ (subBs x ++ subBs x)).length = 24 := rfl; omega)]
      rfl
    rw [b18]
    unfold subOk at hb
    rw [if_neg hm] at hb
    simp only [Bool.and_eq_true, decide_eq_true_eq, btw_iff] at hb
    obtain ⟨⟨⟨⟨q1, q2⟩, q3⟩, q4⟩, q5⟩ := hb
    have hn : (UInt8.ofNat x.su.toNat).toNat = x.su.toNat := by simp; omega
    rw [hn, if_neg (by decide), if_neg (by decide)]
    rcases modeOk_iff.1 h0 with e | e | e
    · exact absurd e hm
    · rw [if_neg, e]
      intro hc
      have := q5.1 (by omega)
      omega
    · rw [if_pos, e]
      have := q5.2 e
      omega
theorem chk_build {x : Sec} (h : validB x = true) : chkB ⟨(buildL x).toArray⟩ = true := by
  obtain ⟨E, c, hE, hc, a1, a2, a3, hp⟩ := build_nat h
  unfold chkB
  rw [kind_build h, if_pos rfl, hE, hc, list_str]
  show chkL (buildL x) E c = true
  unfold chkL
  have hcd : codedL x = preL x ++ codeL (preL x) c := by
    unfold codedL
    rw [hc]
    rfl
  have e1 : (buildL x).take E = preL x := by
    unfold buildL
    rw [hcd, List.append_assoc, List.take_append_of_le_length (by omega), List.take_of_length_le (by omega)]
  have e2 : (buildL x).take (E + 4) = codedL x := by
    have : (codedL x).length = E + 4 := by rw [hcd, List.length_append, hp, codeL_len]
    unfold buildL
    rw [List.take_append_of_le_length (by omega), List.take_of_length_le (by omega)]
  have e3 : (codedL x).drop E = codeL (preL x) c := by
    rw [hcd, ← hp, List.drop_left]
  rw [e1, e2, e3]
  exact beq_self_eq_true _

theorem zeros_len (n : Nat) : (Lib.repeatL [0] n).length = n := by
  induction n with
  | zero => rfl
  | succ n ih => rw [Lib.repeatL, List.length_append, ih]; simp; omega
theorem head_a (d : ByteArray) : headL ⟨0, 0, 0, 0, 0, 0, d⟩ = [0, 255, 255, 255, 255, 255, 255, 255, 255, 255, 255, 0, 0, 2, 0, 1] := by rfl
theorem head_b (d : ByteArray) : headL ⟨16, 1, 0, 0, 8, 0, d⟩ ++ (subBs ⟨16, 1, 0, 0, 8, 0, d⟩ ++ subBs ⟨16, 1, 0, 0, 8, 0, d⟩) = [0, 255, 255, 255, 255, 255, 255, 255, 255, 255, 255, 0, 0, 2, 22, 2, 0, 0, 8, 0, 0, 0, 8, 0] := by rfl

theorem part_eq (l h r : List UInt8) (i j : Nat) (hl : l = h ++ r) (hj : j ≤ h.length) : (⟨l.toArray⟩ : ByteArray).extract i j = ⟨((h.take j).drop i).toArray⟩ := by
  apply ByteArray.ext
  apply Array.toList_inj.1
  rw [sub_extract, list_str, hl, List.take_append_of_le_length hj]

set_option maxHeartbeats 4000000 in
theorem awake_any (w : World) :
    Calls Try.prog 10 #[] w fun e w' => e = .returned (.bool true) ∧ Below w.heap.size w w' := by
  have C0 : Hid (∀ w, Calls Try.prog 25 #[.string ⟨#[0]⟩, .int .i64 2048] w fun e w' => e = .returned (.string ⟨(Lib.repeatL [0] 2048).toArray⟩) ∧ Below w.heap.size w w') := fun w => Try.strings_Repeat ⟨#[0]⟩ 2048 w (by omega) (by decide)
  have hz : (⟨(Lib.repeatL [0] 2048).toArray⟩ : ByteArray).size = 2048 := by rw [str_size, zeros_len]
  generalize (⟨(Lib.repeatL [0] 2048).toArray⟩ : ByteArray) = Z at *
  have v1 : validB ⟨0, 0, 0, 0, 0, 0, Z⟩ = true := by
    unfold validB subOk
    simp only [hz]
    rfl
  have v2 : validB ⟨16, 1, 0, 0, 8, 0, Z⟩ = true := by
    unfold validB subOk
    simp only [hz]
    rfl
  have C1 : Hid (∀ w, Calls Try.prog 11 #[.agg #[.int .i64 0, .int .i64 0, .int .i64 0, .int .i64 0, .int .i64 0, .int .i64 0, .string Z]] w fun e w' => e = .returned (.tuple #[.string ⟨(buildL ⟨0, 0, 0, 0, 0, 0, Z⟩).toArray⟩, .int .i64 0]) ∧ Below w.heap.size w w') := by
    have := fun w => build_any ⟨0, 0, 0, 0, 0, 0, Z⟩ w (by dsimp only; omega) (by dsimp only; omega)
    rwa [show buildR ⟨0, 0, 0, 0, 0, 0, Z⟩ = _ from if_pos v1] at this
  have C2 : Hid (∀ w, Calls Try.prog 11 #[.agg #[.int .i64 16, .int .i64 1, .int .i64 0, .int .i64 0, .int .i64 8, .int .i64 0, .string Z]] w fun e w' => e = .returned (.tuple #[.string ⟨(buildL ⟨16, 1, 0, 0, 8, 0, Z⟩).toArray⟩, .int .i64 0]) ∧ Below w.heap.size w w') := by
    have := fun w => build_any ⟨16, 1, 0, 0, 8, 0, Z⟩ w (by dsimp only; omega) (by dsimp only; omega)
    rwa [show buildR ⟨16, 1, 0, 0, 8, 0, Z⟩ = _ from if_pos v2] at this
  have s1 : (⟨(buildL ⟨0, 0, 0, 0, 0, 0, Z⟩).toArray⟩ : ByteArray).size = 2352 := by rw [str_size, build_len v1]
  have s2 : (⟨(buildL ⟨16, 1, 0, 0, 8, 0, Z⟩).toArray⟩ : ByteArray).size = 2352 := by rw [str_size, build_len v2]
  have C3 := Lib.hid (fun w => check_any ⟨(buildL ⟨0, 0, 0, 0, 0, 0, Z⟩).toArray⟩ w (by omega))
  rw [chk_build v1] at C3
  obtain ⟨r1, hr1⟩ := build_head ⟨0, 0, 0, 0, 0, 0, Z⟩
  rw [head_a] at hr1
  obtain ⟨r2, hr2⟩ := build_sub ⟨16, 1, 0, 0, 8, 0, Z⟩ (by dsimp only; omega)
  rw [head_b] at hr2
  have x1 := part_eq _ _ _ 0 16 hr1 (by decide)
  have x2 := part_eq _ _ _ 12 24 hr2 (by decide)
  clear hr1 hr2 v1 v2 hz
  generalize (⟨(buildL ⟨0, 0, 0, 0, 0, 0, Z⟩).toArray⟩ : ByteArray) = A at *
  generalize (⟨(buildL ⟨16, 1, 0, 0, 8, 0, Z⟩).toArray⟩ : ByteArray) = B at *
  have x1' : A.extract 0 16 = ⟨#[0, 255, 255, 255, 255, 255, 255, 255, 255, 255, 255, 0, 0, 2, 0, 1]⟩ := x1
  have x2' : B.extract 12 24 = ⟨#[0, 2, 22, 2, 0, 0, 8, 0, 0, 0, 8, 0]⟩ := x2
  clear x1 x2
  go_enter Try.func10, Try.ntmps10
  go_wp2_with fail
  refine (C0.out _).mono ?_
  rintro e w1 ⟨rfl, hb1⟩
  go_wp2_with fail
  refine (C1.out _).mono ?_
  rintro e w2 ⟨rfl, hb2⟩
  go_wp2_with fail
  refine (C2.out _).mono ?_
  rintro e w3 ⟨rfl, hb3⟩
  go_wp2_with fail
  refine (C3.out _).mono ?_
  rintro e w4 ⟨rfl, hb4⟩
  go_wp2_with fail
  go_ret
  have b2 := belowC hb2 hb1
  have b3 := belowC hb3 b2
  exact ⟨rfl, belowC hb4 b3⟩
end Go.Proofs.Ytdjpnabkmanboaa
