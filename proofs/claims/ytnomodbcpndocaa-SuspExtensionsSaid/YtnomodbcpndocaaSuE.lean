/-
  Chapter 24: Decode of the program.
-/
import Derived.Test.YtnomodbcpndocaaSuD
import Derived.Test.YtnomodbcpndocaaStep
import Derived.Test.YtnomodbcpndocaaOwnK
import Derived.Deep.Cut
namespace Go.Proofs.Ytnomodbcpndocaa
open Go.RowKit
set_option linter.unusedVariables false

def nthB (t : ByteArray) (i : Nat) : Nat := (t.data.toList[i]?.getD 0).toNat
theorem nthB_get (t : ByteArray) (i : Nat) (h : i < t.size) : t[i].toNat = nthB t i := by unfold nthB; rw [bytes_get t i h]; rfl
theorem nthB_lt (t : ByteArray) (i : Nat) : nthB t i < 256 := UInt8.toNat_lt _
def stS : ByteArray := ⟨#[83, 84]⟩
/-- Nothing more is read here. -/
def stopB (t : ByteArray) : Prop := t.size < 4 ∨ nthB t 0 = 0 ∨ t.extract 0 2 = stS
instance (t : ByteArray) : Decidable (stopB t) := by unfold stopB; infer_instance
def badB (t : ByteArray) : Prop := sigB (t.extract 0 2) = false ∨ nthB t 2 < 4 ∨ t.size < nthB t 2
instance (t : ByteArray) : Decidable (badB t) := by unfold badB; infer_instance
def headB (t : ByteArray) : Ent := ⟨t.extract 0 2, (nthB t 3 : Nat), t.extract 4 (nthB t 2)⟩
def restB (t : ByteArray) : ByteArray := t.extract (nthB t 2) t.size
theorem restB_size {t : ByteArray} (h : ¬ badB t) : (restB t).size = t.size - nthB t 2 ∧ 4 ≤ nthB t 2 ∧ nthB t 2 ≤ t.size := by
  unfold badB at h
  unfold restB
  refine ⟨by simp, by omega, by omega⟩
def decO (t : ByteArray) : Option (List Ent) :=
  if stopB t then some [] else if h : badB t then none else (decO (restB t)).map (headB t :: ·)
  termination_by t.size
  decreasing_by have := restB_size h; omega
theorem decO_stop {t : ByteArray} (h : stopB t) : decO t = some [] := by rw [decO, if_pos h]
theorem decO_bad {t : ByteArray} (h : ¬ stopB t) (hb : badB t) : decO t = none := by rw [decO, if_neg h, dif_pos hb]
theorem decO_more {t : ByteArray} (h : ¬ stopB t) (hb : ¬ badB t) : decO t = (decO (restB t)).map (headB t :: ·) := by rw [decO, if_neg h, dif_neg hb]
def decL (s : ByteArray) : List Ent := (decO s).getD []
def decE (s : ByteArray) : Int := if (decO s).isSome then 0 else 10
def DecRes (s : ByteArray) (w : World) (e : Ending) (w' : World) : Prop :=
  Below w.heap.size w w' ∧ ∃ A c, e = .returned (.tuple #[.slice A (decL s).length c, .int .i64 (decE s)]) ∧ w'.ownsRow w.heap.size 41 3 (.slice A (decL s).length c) (decL s).length (flat encE (decL s))
def strSize : Value → Nat
  | .string s => s.size
  | _ => 0
theorem info_ent : (Try.prog.info? 41).map (fun i => (i.zero, i.size, i.bytes)) = some (some (.agg #[.string ⟨#[]⟩, .int .i64 0, .string ⟨#[]⟩]), 3, 40) := by kernel_rfl

set_option maxRecDepth 100000 in
set_option maxHeartbeats 4000000 in
theorem decode_any (s : ByteArray) (w : World) (hs : s.size ≤ 1000000) : Calls Try.prog 13 #[.string s] w (DecRes s w) := by
  have HSZ := Lib.hid hs
  clear hs
  go_enter Try.func13, Try.ntmps13
  go_wp2_with fail
  go_loopw [0, 4] (fun t o wr => ∃ (T : ByteArray) (acc : List Ent), t = .string T ∧ wr.ownsRow w.heap.size 41 3 o acc.length (flat encE acc) ∧ Hid (decO s = (decO T).map (acc ++ ·)) ∧ Hid (4 * acc.length + T.size ≤ s.size) ∧ Below w.heap.size w wr) (fun t _ _ => strSize t)
  case atStart => exact ⟨s, [], rfl, World.ownsRow_nil _ _ _ _, Lib.hid (by cases decO s <;> rfl), Lib.hid (by simp), Below.refl _ _⟩
  case round =>
    obtain ⟨T, acc, rfl, hown, hd, hsz, hbel⟩ := hrel
    obtain ⟨Ao, co, rfl⟩ := own_slice hown
    by_cases hst : stopB T
    · have hfin : decO s = some acc := by rw [hd.out, decO_stop hst]; simp
      have HF := Lib.hid (show decL s = acc ∧ decE s = 0 by unfold decL decE; rw [hfin]; exact ⟨rfl, rfl⟩)
      have HO := Lib.hid hown
      clear hfin hown
      have HB := Lib.hid hbel
      clear hbel
      by_cases h4 : T.size < 4
      · have f1 : (T.size : Int) < 4 := by omega
        clear hst
        go_wp2_with fail
        go_ret2
        refine ⟨HB.out, Ao, co, ?_, ?_⟩
        · rw [HF.out.1, HF.out.2]; rfl
        · rw [HF.out.1]; exact HO.out
      · have f1 : ¬ (T.size : Int) < 4 := by omega
        have f1b : (4 : Int) ≤ (T.size : Int) := by omega
        have hl0 : 0 < T.size := by omega
        have hn0 := nthB_get T 0 hl0
        by_cases h0 : nthB T 0 = 0
        · have f2 : T[0].toNat = 0 := by omega
          clear hst hn0 h0 h4
          go_wp2_with fail
          go_ret2
          refine ⟨HB.out, Ao, co, ?_, ?_⟩
          · rw [HF.out.1, HF.out.2]; rfl
          · rw [HF.out.1]; exact HO.out
        · have f2 : ¬ (T[0].toNat : Int) = 0 := by omega
          have f3 : T.extract 0 2 = ⟨#[83, 84]⟩ := by
            rcases hst with h | h | h
            · exact absurd h h4
            · exact absurd h h0
            · exact h
          clear hst hn0 h0 h4
          go_wp2_with fail
          go_ret2
          refine ⟨HB.out, Ao, co, ?_, ?_⟩
          · rw [HF.out.1, HF.out.2]; rfl
          · rw [HF.out.1]; exact HO.out
    · have HST := Lib.hid hst
      unfold stopB at hst
      have f1 : ¬ (T.size : Int) < 4 := by omega
      have f1b : (4 : Int) ≤ (T.size : Int) := by omega
      have hl0 : 0 < T.size := by omega
      have hl2 : 2 < T.size := by omega
      have hl3 : 3 < T.size := by omega
      have hn0 := nthB_get T 0 hl0
      have hn2 := nthB_get T 2 hl2
      have hn3 := nthB_get T 3 hl3
      have f2 : ¬ (T[0].toNat : Int) = 0 := by omega
      have f3 : ¬ T.extract 0 2 = ⟨#[83, 84]⟩ := fun h => hst (.inr (.inr h))
      have f2b : ((T[0].toNat : Int) != 0) = true := by simp; omega
      have f3b : ((T.extract 0 2).toList == [83, 84]) = false := by
        rw [beq_eq_false_iff_ne]
        intro h
        refine f3 (ByteArray.ext (Array.ext' ?_))
        rw [← ByteArray.toList_eq]
        exact h
      have hn2b := nthB_lt T 2
      have hw1 : wrap64 ((nthB T 2 : Nat) : Int) = ((nthB T 2 : Nat) : Int) := IntWalk.wrap64_in _ (by omega)
      have hw2 : IntKind.i64.wrap ((nthB T 2 : Nat) : Int) = ((nthB T 2 : Nat) : Int) := IntWalk.i64_in _ (by omega)
      have hn3b := nthB_lt T 3
      have hw3 : wrap64 ((nthB T 3 : Nat) : Int) = ((nthB T 3 : Nat) : Int) := IntWalk.wrap64_in _ (by omega)
      have hw4 : IntKind.i64.wrap ((nthB T 3 : Nat) : Int) = ((nthB T 3 : Nat) : Int) := IntWalk.i64_in _ (by omega)
      have CS := Lib.hid (fun w => issig_any (T.extract 0 2) w (by simp; have := HSZ.out; have := hsz.out; omega))
      have HB := Lib.hid hbel
      have HO := Lib.hid hown
      clear hst hn0 hbel hown
      go_wp2_with fail
      refine (CS.out _).mono ?_
      rintro e w2 ⟨rfl, hb2⟩
      have HB2 := Lib.hid (HB.out.trans (hb2.mono HB.out.size))
      have HO2 := Lib.hid (own_all HO.out hb2)
      obtain ⟨n, hn⟩ : ∃ n, nthB T 2 = n := ⟨_, rfl⟩
      have HN := Lib.hid hn
      rw [hn] at hn2 hn2b hw1 hw2 ⊢
      clear hn hb2 HB HO CS
      by_cases hbad : badB T
      · have hfin : decO s = none := by rw [hd.out, decO_bad HST.out hbad]; rfl
        have HF := Lib.hid (show decL s = [] ∧ decE s = 10 by unfold decL decE; rw [hfin]; exact ⟨rfl, rfl⟩)
        have hbad2 := hbad
        unfold badB at hbad
        rw [HN.out] at hbad
        clear hfin hbad2
        have fin : DecRes s w (.returned (.tuple #[.slice none 0 0, .int .i64 10])) w2 := by
          refine ⟨HB2.out, none, 0, ?_, ?_⟩
          · rw [HF.out.1, HF.out.2]; rfl
          · rw [HF.out.1]; exact World.ownsRow_nil _ _ _ _
        have FIN := Lib.hid fin
        clear fin
        cases hs1 : sigB (T.extract 0 2) with
        | false =>
          clear hs1 hbad
          go_wp2_with fail
          go_ret2
          exact FIN.out
        | true =>
          rw [hs1] at hbad
          by_cases hs2 : n < 4
          · have f4 : (n : Int) < 4 := by omega
            clear hs1 hbad hs2
            go_wp2_with fail
            go_ret2
            exact FIN.out
          · have f4 : ¬ (n : Int) < 4 := by omega
            have f5 : (T.size : Int) < (n : Int) := by
              rcases hbad with h | h | h
              · cases h
              · omega
              · omega
            clear hs1 hbad hs2
            go_wp2_with fail
            go_ret2
            exact FIN.out
      · have hmore := Lib.hid (decO_more HST.out hbad)
        have HR := Lib.hid (restB_size hbad)
        unfold badB at hbad
        rw [HN.out] at hbad HR
        have hs1 : sigB (T.extract 0 2) = true := by
          cases h : sigB (T.extract 0 2) with
          | false => exact absurd (.inl h) hbad
          | true => rfl
        have f4 : ¬ (n : Int) < 4 := by omega
        have f4b : (4 : Int) ≤ (n : Int) := by omega
        have f5 : ¬ (T.size : Int) < (n : Int) := by omega
        have f5b : (n : Int) ≤ (T.size : Int) := by omega
        have hn4 : 4 ≤ n := by omega
        have hnT : n ≤ T.size := by omega
        rw [hs1]
        clear hs1 hbad
        go_wp2_with fail
        have hbs := HB2.out.size
        have h2T : (2 : Int) ≤ (T.size : Int) := by omega
        have h3T : (3 : Int) < (T.size : Int) := by omega
        have HACC := Lib.hid (show acc.length ≤ 250000 by have := hsz.out; have := HSZ.out; omega)
        go_region_law (first | (refine step_appN (w := w2.drew) (own_drewN HO2.out 1) (H := w2.heap.size) rfl info_ent Try.underlying22 rfl (by decide) (us := [.string (T.extract 0 2), .int .i64 ((nthB T 3 : Nat) : Int), .string (T.extract 4 n)]) rfl (by unfold maxLen; have := HACC.out; omega) (by have := HACC.out; omega) hbs (by intro u hu; simp only [List.mem_cons, List.not_mem_nil, or_false] at hu; rcases hu with rfl | rfl | rfl <;> rfl) rfl rfl (by rfl) (by rfl) (by rfl) ?_; intro v1 w4 hown4 hb4 _; obtain ⟨A4, c4, hv4⟩ := own_slice hown4; subst hv4))
        all_goals
          go_wp2_with fail
          have hrs : T.extract n T.size = restB T := by unfold restB; rw [HN.out]
          have hhd : headB T = ⟨T.extract 0 2, ((nthB T 3 : Nat) : Int), T.extract 4 n⟩ := by unfold headB; rw [HN.out]
          have hr1 := HR.out.1
          have hszz := hsz.out
          refine ⟨⟨restB T, acc ++ [headB T], by rw [hrs], ?_, ?_, ?_, HB2.out.trans ((below_drewN (Below.refl _ w2) 1 |>.mono hbs).trans hb4)⟩, ?_⟩
          · rw [List.length_append, List.length_singleton, flat_snoc, hhd]
            exact hown4
          · refine Lib.hid ?_
            rw [hd.out, hmore.out, Option.map_map]
            congr 1
            funext y
            simp
          · refine Lib.hid ?_
            rw [List.length_append, List.length_singleton, hr1]
            omega
          · rw [hrs]
            show (restB T).size < T.size
            omega
end Go.Proofs.Ytnomodbcpndocaa
