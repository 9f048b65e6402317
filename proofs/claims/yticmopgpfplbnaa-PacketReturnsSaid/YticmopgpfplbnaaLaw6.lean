/-
  The walk of the law PacketRecords.
-/
import Derived.Test.YticmopgpfplbnaaOpenS
import Derived.Test.YticmopgpfplbnaaAwake
namespace Go.Proofs.Yticmopgpfplbnaa
open Go.RowKit
set_option linter.unusedVariables false

theorem splitL_len {n : Int} {ss : List ByteArray} (h : ss.length ≤ 1000000) : (splitL n ss).length ≤ 1000000 ∧ ∀ l ∈ splitL n ss, l.length ≤ 1000000 := by
  unfold splitL
  split
  · rename_i hok
    have h1 : sizedB n = true := by
      unfold splitOk at hok
      simp only [Bool.and_eq_true] at hok
      exact hok.1
    obtain ⟨N, rfl, h1, h2⟩ := sized_nat h1
    refine ⟨?_, fun l hl => ?_⟩
    · rw [pks_length]
      exact Nat.le_trans (pkCount_le (by simpa using h1)) h
    · obtain ⟨i, hi⟩ := List.getElem?_of_mem hl
      have := (List.getElem?_eq_some_iff.1 hi).1
      rw [pks_length] at this
      rw [pks_get this] at hi
      injection hi with hi
      rw [← hi, pk_length]
      simp; omega
  · exact ⟨by simp, fun l hl => (List.not_mem_nil hl).elim⟩
theorem recL_len (n s : Int) (ss : List ByteArray) : (recL n s ss).length ≤ 1000000 := by
  unfold recL
  split
  · rename_i h
    rw [recUp_length]
    unfold recOk at h
    simp only [Bool.and_eq_true] at h
    have := of_decide_eq_true h.2
    omega
  · simp
theorem colL_len (n : Int) (l : List Sec) : (colL n l).length ≤ l.length := by
  unfold colL
  split
  · exact colUp_le _ _ _
  · simp

set_option maxRecDepth 100000 in
set_option maxHeartbeats 4000000 in
theorem records_go (n s : Int) (A B : Option Addr) (c d : Nat) (ss : List ByteArray) (l : List Sec) (w : World) (hs : SlAt w w.heap.size A (ss.map Value.string)) (hc : ss.length ≤ c) (hcm : c ≤ maxLen) (hz : ∀ s ∈ ss, s.size ≤ maxLen) (hs1 : -9223372036854775808 ≤ s) (hs2 : s ≤ 9223372036854775807)
    (hL : SlAt w w.heap.size B (flat encS l)) (hb : SecsIn l) (hl1 : ss.length ≤ 20) (hl2 : l.length ≤ 40) (hn : n ≤ 40 ∨ (40 < n ∧ 1024 < n)) :
    Calls Try.prog 8 #[.int .i64 n, .int .i64 s, .slice A ss.length c, .slice B l.length d] w fun e w' => e = .returned (.bool true) ∧ Below w.heap.size w w' := by
  have C1 := Lib.hid (fun wx (h : Below w.heap.size w wx) => split_any n A c ss wx ((hs.below h).mono h.size) (by omega) hc hcm hz)
  have C2 := Lib.hid (fun wx (h : Below w.heap.size w wx) => rsplit_any n A c ss wx ((hs.below h).mono h.size) (by omega) hz)
  have C3 := Lib.hid (fun wx (h : Below w.heap.size w wx) => rec_any n s A c ss wx ((hs.below h).mono h.size) (by omega) hc hcm hz hs1 hs2)
  have C4 := Lib.hid (fun wx (h : Below w.heap.size w wx) => rrec_any n s A c ss wx ((hs.below h).mono h.size) (by omega) hz hs1)
  have C5 := Lib.hid (fun wx (h : Below w.heap.size w wx) => col_any n B d l wx ((hL.below h).mono h.size) (by omega) hb)
  have C6 := Lib.hid (fun wx (h : Below w.heap.size w wx) => rcol_any n B d l wx ((hL.below h).mono h.size) (by omega) hb)
  have HS := Lib.hid (splitL_len (n := n) (ss := ss) (by omega))
  have HR := Lib.hid (recL_len n s ss)
  have HC := Lib.hid (Nat.le_trans (colL_len n l) (show l.length ≤ 1000000 by omega))
  have hl1' : (ss.length : Int) ≤ 20 := by omega
  have hl2' : (l.length : Int) ≤ 40 := by omega
  obtain ⟨len1, e1⟩ : ∃ k, ss.length = k := ⟨_, rfl⟩
  obtain ⟨len2, e2⟩ : ∃ k, l.length = k := ⟨_, rfl⟩
  rw [e1] at C1 C2 C3 C4 hl1' ⊢
  rw [e2] at C5 C6 hl2' ⊢
  clear hs hL hc hcm hz hb hl1 hl2 e1 e2
  rcases hn with hn | ⟨hn, hn2⟩
  all_goals
    go_enter Try.func8, Try.ntmps8
    go_wp2_with fail
    refine (awake_any _).mono ?_
    rintro e w0 ⟨rfl, hb0⟩
    go_wp2_with fail
    refine (C1.out _ hb0).mono ?_
    rintro e w1 ⟨b1, A1, c1, h1, rfl, s1, t1⟩
    have B1 := belowC' b1 hb0
    go_wp2_with fail
    refine (C2.out _ B1).mono ?_
    rintro e w2 ⟨b2, A2, c2, h2, rfl, s2, t2⟩
    have B2 := belowC' b2 B1
    have s1 := s1.below b2
    have t1 := t1.below b2
    go_wp2_with fail
    refine (C3.out _ B2).mono ?_
    rintro e w3 ⟨b3, A3, c3, rfl, s3⟩
    have B3 := belowC' b3 B2
    go_wp2_with fail
    refine (C4.out _ B3).mono ?_
    rintro e w4 ⟨b4, A4, c4, rfl, s4⟩
    have B4 := belowC' b4 B3
    go_wp2_with fail
    refine (C5.out _ B4).mono ?_
    rintro e w5 ⟨b5, A5, c5, rfl, s5⟩
    have B5 := belowC' b5 B4
    go_wp2_with fail
    refine (C6.out _ B5).mono ?_
    rintro e w6 ⟨b6, A6, c6, rfl, s6⟩
    have B6 := belowC' b6 B5
    have b56 := b6
    have b46 := belowC' b6 b5
    have b36 := belowC' b46 b4
    have b26 := belowC' b36 b3
    have S1 := (s1.mono b2.size).below b26
    have T1 := (t1.mono b2.size).below b26
    have S2 := s2.below b26
    have T2 := t2.below b26
    have S3 := s3.below b36
    have S4 := s4.below b46
    have S5 := s5.below b56
    have CP := Lib.hid (packets_same A1 A2 c1 c2 h1 h2 (splitL n ss) w6 (S1.mono b26.size) (S2.mono b26.size) (T1.mono b26.size) (T2.mono b26.size) HS.out.1 HS.out.2)
    have CS := Lib.hid (fun wx (h : Below w6.heap.size w6 wx) => sectors_same A3 A4 c3 c4 (recL n s ss) wx (((S3.mono b36.size).below h).mono h.size) (((S4.mono b46.size).below h).mono h.size) HR.out)
    have CT := Lib.hid (fun wx (h : Below w6.heap.size w6 wx) => strings_same A5 A6 c5 c6 (colL n l) wx (((S5.mono b56.size).below h).mono h.size) ((s6.below h).mono h.size) HC.out)
    clear S1 T1 S2 T2 S3 S4 S5 s1 s2 s3 s4 s5 s6 t1 t2
    go_wp2_with fail
    refine CP.out.mono ?_
    rintro e w7 ⟨rfl, b7⟩
    go_wp2_with fail
    refine (CS.out _ b7).mono ?_
    rintro e w8 ⟨rfl, b8⟩
    have b68 := belowC' b8 b7
    go_wp2_with fail
    refine (CT.out _ b68).mono ?_
    rintro e w9 ⟨rfl, b9⟩
    go_wp2_with fail
    go_ret
    exact ⟨rfl, belowC' b9 (belowC' b68 B6)⟩

theorem records_skip (n s : Int) (A B : Option Addr) (c d k m : Nat) (w : World) (h : 20 < k ∨ (k ≤ 20 ∧ 40 < m) ∨ (k ≤ 20 ∧ m ≤ 40 ∧ 40 < n ∧ n ≤ 1024)) :
    Calls Try.prog 8 #[.int .i64 n, .int .i64 s, .slice A k c, .slice B m d] w fun e w' => e = .returned (.bool true) ∧ Below w.heap.size w w' := by
  rcases h with h | ⟨h1, h2⟩ | ⟨h1, h2, h3, h4⟩
  · have h' : (20 : Int) < (k : Int) := by omega
    go_enter Try.func8, Try.ntmps8
    go_wp2_with fail
    refine (awake_any _).mono ?_
    rintro e w0 ⟨rfl, hb0⟩
    go_wp2_with fail
    go_ret
    exact ⟨rfl, hb0⟩
  · have h1' : (k : Int) ≤ 20 := by omega
    have h2' : (40 : Int) < (m : Int) := by omega
    go_enter Try.func8, Try.ntmps8
    go_wp2_with fail
    refine (awake_any _).mono ?_
    rintro e w0 ⟨rfl, hb0⟩
    go_wp2_with fail
    go_ret
    exact ⟨rfl, hb0⟩
  · have h1' : (k : Int) ≤ 20 := by omega
    have h2' : (m : Int) ≤ 40 := by omega
    go_enter Try.func8, Try.ntmps8
    go_wp2_with fail
    refine (awake_any _).mono ?_
    rintro e w0 ⟨rfl, hb0⟩
    go_wp2_with fail
    go_ret
    exact ⟨rfl, hb0⟩

theorem records_walk (n s : Int) (A : Option Addr) (k c : Nat) (ss : List ByteArray) (B : Option Addr) (m d : Nat) (l : List Sec) (w : World) (w0 : (Lit.int .i64 n).wf = true) (w1 : (Lit.int .i64 s).wf = true) (w2 : IsL (fun s => [Value.string s]) (fun s => s.size ≤ maxLen) w A k c ss) (w3 : IsL encS SecG w B m d l) :
    Calls Try.prog 8 #[.int .i64 n, .int .i64 s, .slice A k c, .slice B m d] w fun e w' => e = .returned (.bool true) ∧ Below w.heap.size w w' := by
  obtain ⟨s1, s2⟩ := wf64 w1
  obtain ⟨rfl, hc, hcm, hs, hz⟩ := w2.strs
  obtain ⟨rfl, _, _, hL, hg⟩ := w3
  by_cases h : 20 < ss.length ∨ (ss.length ≤ 20 ∧ 40 < l.length) ∨ (ss.length ≤ 20 ∧ l.length ≤ 40 ∧ 40 < n ∧ n ≤ 1024)
  · exact records_skip n s A B c d ss.length l.length w h
  · exact records_go n s A B c d ss l w hs hc hcm hz s1 s2 hL hg (by omega) (by omega) (by omega)
end Go.Proofs.Yticmopgpfplbnaa
