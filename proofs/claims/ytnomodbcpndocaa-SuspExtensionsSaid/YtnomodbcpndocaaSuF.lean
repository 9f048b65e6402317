/-
  Chapter 24: Decode of the reference.
-/
import Derived.Test.YtnomodbcpndocaaSuE
namespace Go.Proofs.Ytnomodbcpndocaa
open Go.RowKit
set_option linter.unusedVariables false

set_option maxRecDepth 100000 in
set_option maxHeartbeats 4000000 in
theorem rdecode_any (s : ByteArray) (w : World) (hs : s.size ≤ 1000000) : Calls Try.prog 14 #[.string s] w (DecRes s w) := by
  have HSZ := Lib.hid hs
  clear hs
  go_enter Try.func14, Try.ntmps14
  go_wp2_with fail
  go_loopw [0, 4] (fun t o wr => ∃ (T : ByteArray) (acc : List Ent), t = .string T ∧ wr.ownsRow w.heap.size 41 3 o acc.length (flat encE acc) ∧ Hid (decO s = (decO T).map (acc ++ ·)) ∧ Hid (4 * acc.length + T.size ≤ s.size) ∧ Below w.heap.size w wr) (fun t _ _ => strSize t)
  case atStart => exact ⟨s, [], rfl, World.ownsRow_nil _ _ _ _, Lib.hid (by cases decO s <;> rfl), Lib.hid (by simp), Below.refl _ _⟩
  case round =>
    obtain ⟨T, acc, rfl, hown, hd, hsz, hbel⟩ := hrel
    obtain ⟨Ao, co, rfl⟩ := own_slice hown
    by_cases hst : stopB T
    · have hfin : decO s = some acc := by rw [hd.out, decO_stop hst]; simp
      have HF := Lib.hid (show decL s = acc ∧ decE s = 0 by unfold decL decE; rw [hfin]; exact ⟨rfl, rfl⟩)
      have HO := Lib.hid hown
      clear hfin hown
      have HB := Lib.hid hbel
      clear hbel
      by_cases h4 : T.size < 4
      · have f1 : (T.size : Int) < 4 := by omega
        clear hst
        go_wp2_with fail
        go_ret2
        refine ⟨HB.out, Ao, co, ?_, ?_⟩
        · rw [HF.out.1, HF.out.2]; rfl
        · rw [HF.out.1]; exact HO.out
      · have f1 : ¬ (T.size : Int) < 4 := by omega
        have f1b : (4 : Int) ≤ (T.size : Int) := by omega
        have hl0 : 0 < T.size := by omega
        have hn0 := nthB_get T 0 hl0
        by_cases h0 : nthB T 0 = 0
        · have f2 : T[0].toNat = 0 := by omega
          clear hst hn0 h0 h4
          go_wp2_with fail
          go_ret2
          refine ⟨HB.out, Ao, co, ?_, ?_⟩
          · rw [HF.out.1, HF.out.2]; rfl
          · rw [HF.out.1]; exact HO.out
        · have f2 : ¬ (T[0].toNat : Int) = 0 := by omega
          have f3 : T.extract 0 2 = ⟨#[83, 84]⟩ := by
            rcases hst with h | h | h
            · exact absurd h h4
            · exact absurd h h0
            · exact h
          clear hst hn0 h0 h4
          go_wp2_with fail
          go_ret2
          refine ⟨HB.out, Ao, co, ?_, ?_⟩
          · rw [HF.out.1, HF.out.2]; rfl
          · rw [HF.out.1]; exact HO.out
    · have HST := Lib.hid hst
      unfold stopB at hst
      have f1 : ¬ (T.size : Int) < 4 := by omega
      have f1b : (4 : Int) ≤ (T.size : Int) := by omega
      have hl0 : 0 < T.size := by omega
      have hl2 : 2 < T.size := by omega
      have hl3 : 3 < T.size := by omega
      have hn0 := nthB_get T 0 hl0
      have hn2 := nthB_get T 2 hl2
      have hn3 := nthB_get T 3 hl3
      have f2 : ¬ (T[0].toNat : Int) = 0 := by omega
      have f3 : ¬ T.extract 0 2 = ⟨#[83, 84]⟩ := fun h => hst (.inr (.inr h))
      have f2b : ((T[0].toNat : Int) != 0) = true := by simp; omega
      have f3b : ((T.extract 0 2).toList == [83, 84]) = false := by
        rw [beq_eq_false_iff_ne]
        intro h
        refine f3 (ByteArray.ext (Array.ext' ?_))
        rw [← ByteArray.toList_eq]
        exact h
      have hn2b := nthB_lt T 2
      have hw1 : wrap64 ((nthB T 2 : Nat) : Int) = ((nthB T 2 : Nat) : Int) := IntWalk.wrap64_in _ (by omega)
      have hw2 : IntKind.i64.wrap ((nthB T 2 : Nat) : Int) = ((nthB T 2 : Nat) : Int) := IntWalk.i64_in _ (by omega)
      have hn3b := nthB_lt T 3
      have hw3 : wrap64 ((nthB T 3 : Nat) : Int) = ((nthB T 3 : Nat) : Int) := IntWalk.wrap64_in _ (by omega)
      have hw4 : IntKind.i64.wrap ((nthB T 3 : Nat) : Int) = ((nthB T 3 : Nat) : Int) := IntWalk.i64_in _ (by omega)
      have CS := Lib.hid (fun w => rsig_any (T.extract 0 2) w)
      have HB := Lib.hid hbel
      have HO := Lib.hid hown
      clear hst hn0 hbel hown
      go_wp2_with fail
      refine (CS.out _).mono ?_
      rintro e w2 ⟨rfl, rfl⟩
      have HB2 := Lib.hid HB.out
      have HO2 := Lib.hid HO.out
      obtain ⟨n, hn⟩ : ∃ n, nthB T 2 = n := ⟨_, rfl⟩
      have HN := Lib.hid hn
      rw [hn] at hn2 hn2b hw1 hw2 ⊢
      clear hn HB HO CS
      by_cases hbad : badB T
      · have hfin : decO s = none := by rw [hd.out, decO_bad HST.out hbad]; rfl
        have HF := Lib.hid (show decL s = [] ∧ decE s = 10 by unfold decL decE; rw [hfin]; exact ⟨rfl, rfl⟩)
        have hbad2 := hbad
        unfold badB at hbad
        rw [HN.out] at hbad
        clear hfin hbad2
        have fin : DecRes s w (.returned (.tuple #[.slice none 0 0, .int .i64 10])) wr := by
          refine ⟨HB2.out, none, 0, ?_, ?_⟩
          · rw [HF.out.1, HF.out.2]; rfl
          · rw [HF.out.1]; exact World.ownsRow_nil _ _ _ _
        have FIN := Lib.hid fin
        clear fin
        cases hs1 : sigB (T.extract 0 2) with
        | false =>
          clear hs1 hbad
          go_wp2_with fail
          go_ret2
          exact FIN.out
        | true =>
          rw [hs1] at hbad
          by_cases hs2 : n < 4
          · have f4 : (n : Int) < 4 := by omega
            clear hs1 hbad hs2
            go_wp2_with fail
            go_ret2
            exact FIN.out
          · have f4 : ¬ (n : Int) < 4 := by omega
            have f5 : (T.size : Int) < (n : Int) := by
              rcases hbad with h | h | h
              · cases h
              · omega
              · omega
            clear hs1 hbad hs2
            go_wp2_with fail
            go_ret2
            exact FIN.out
      · have hmore := Lib.hid (decO_more HST.out hbad)
        have HR := Lib.hid (restB_size hbad)
        unfold badB at hbad
        rw [HN.out] at hbad HR
        have hs1 : sigB (T.extract 0 2) = true := by
          cases h : sigB (T.extract 0 2) with
          | false => exact absurd (.inl h) hbad
          | true => rfl
        have f4 : ¬ (n : Int) < 4 := by omega
        have f4b : (4 : Int) ≤ (n : Int) := by omega
        have f5 : ¬ (T.size : Int) < (n : Int) := by omega
        have f5b : (n : Int) ≤ (T.size : Int) := by omega
        have hn4 : 4 ≤ n := by omega
        have hnT : n ≤ T.size := by omega
        rw [hs1]
        clear hs1 hbad
        go_wp2_with fail
        have hbs := HB2.out.size
        have h2T : (2 : Int) ≤ (T.size : Int) := by omega
        have h3T : (3 : Int) < (T.size : Int) := by omega
        have HACC := Lib.hid (show acc.length ≤ 250000 by have := hsz.out; have := HSZ.out; omega)
        go_region_law (first | (refine step_appN (w := wr.drew) (own_drewN HO2.out 1) (H := wr.heap.size) rfl info_ent Try.underlying22 rfl (by decide) (us := [.string (T.extract 0 2), .int .i64 ((nthB T 3 : Nat) : Int), .string (T.extract 4 n)]) rfl (by unfold maxLen; have := HACC.out; omega) (by have := HACC.out; omega) hbs (by intro u hu; simp only [List.mem_cons, List.not_mem_nil, or_false] at hu; rcases hu with rfl | rfl | rfl <;> rfl) rfl rfl (by rfl) (by rfl) (by rfl) ?_; intro v1 w4 hown4 hb4 _; obtain ⟨A4, c4, hv4⟩ := own_slice hown4; subst hv4))
        all_goals
          go_wp2_with fail
          have hrs : T.extract n T.size = restB T := by unfold restB; rw [HN.out]
          have hhd : headB T = ⟨T.extract 0 2, ((nthB T 3 : Nat) : Int), T.extract 4 n⟩ := by unfold headB; rw [HN.out]
          have hr1 := HR.out.1
          have hszz := hsz.out
          refine ⟨⟨restB T, acc ++ [headB T], by rw [hrs], ?_, ?_, ?_, HB2.out.trans ((below_drewN (Below.refl _ wr) 1 |>.mono hbs).trans hb4)⟩, ?_⟩
          · rw [List.length_append, List.length_singleton, flat_snoc, hhd]
            exact hown4
          · refine Lib.hid ?_
            rw [hd.out, hmore.out, Option.map_map]
            congr 1
            funext y
            simp
          · refine Lib.hid ?_
            rw [List.length_append, List.length_singleton, hr1]
            omega
          · rw [hrs]
            show (restB T).size < T.size
            omega
end Go.Proofs.Ytnomodbcpndocaa
