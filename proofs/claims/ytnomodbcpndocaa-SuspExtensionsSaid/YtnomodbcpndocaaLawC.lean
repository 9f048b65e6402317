/-
  The walk of the law SuspExtensions, for strings that are together of at most 562949953404928 bytes (four of the form's reach).
-/
import Derived.Test.YtnomodbcpndocaaLawA
namespace Go.Proofs.Ytnomodbcpndocaa
open Go.RowKit
set_option linter.unusedVariables false

set_option maxRecDepth 100000 in
set_option maxHeartbeats 8000000 in
theorem extensions_law (skip : Int) (use id de so : ByteArray) (A : Option Addr) (len cap : Nat) (l : List Ent) (w : World) (hz : use.size + id.size + de.size + so.size ≤ 562949953404928) (h : IsL encE EntG w A len cap l) :
    Calls Try.prog 5 #[.int .i64 skip, .string use, .string id, .string de, .string so, .slice A len cap] w fun e w' => e = .returned (.bool true) ∧ Below w.heap.size w w' := by
  obtain ⟨h1, h2, h3, h4, h5⟩ := h
  subst h1
  unfold maxLen at h3
  have HE : Hid (EnAt w w.heap.size A l) := Lib.hid h4
  have HS := Lib.hid (fun w' (hb : Below w.heap.size w w') => small_any A cap l 40 w' ((h4.below hb).mono hb.size) (by omega))
  clear h4 h5
  by_cases hg : 1000 < use.size + id.size + de.size + so.size
  · have hgI : (1000 : Int) < (use.size : Int) + (id.size : Int) + (de.size : Int) + (so.size : Int) := by omega
    clear hg HS
    go_enter Try.func5, Try.ntmps5
    go_wp2_with fail
    refine (awake_any _).mono ?_
    rintro e w0 ⟨rfl, hb0⟩
    have HB := Lib.hid hb0
    clear hb0
    go_wp2_with fail
    go_ret
    exact ⟨rfl, HB.out⟩
  · have hgI : ¬ (1000 : Int) < (use.size : Int) + (id.size : Int) + (de.size : Int) + (so.size : Int) := by omega
    cases hsm : smallB l 40 with
    | false =>
      rw [hsm] at HS
      clear hsm hg
      go_enter Try.func5, Try.ntmps5
      go_wp2_with fail
      refine (awake_any _).mono ?_
      rintro e w0 ⟨rfl, hb0⟩
      have C := Lib.hid (HS.out w0 hb0)
      have HB := Lib.hid hb0
      clear hb0 HS
      go_wp2_with fail
      refine C.out.mono ?_
      rintro e _ ⟨rfl, rfl⟩
      go_wp2_with fail
      go_ret
      exact ⟨rfl, HB.out⟩
    | true =>
      rw [hsm] at HS
      obtain ⟨hl, hx⟩ := smallB_len hsm
      have CI := Lib.hid (fun w' => indicator_any skip w')
      have CJ := Lib.hid (fun w' => rindicator_any skip w')
      have CN := Lib.hid (fun w' => indicated_any use w')
      have CO := Lib.hid (fun w' => rindicated_any use w')
      have CR := Lib.hid (fun w' => reference_any id de so skip w' (by omega))
      have CS := Lib.hid (fun w' => rreference_any id de so skip w' (by omega))
      have CF := Lib.hid (fun w' (hb : Below w.heap.size w w') => references_any A cap l w' ((HE.out.below hb).mono hb.size) (by omega))
      have CG := Lib.hid (fun w' (hb : Below w.heap.size w w') => rreferences_any A cap l w' ((HE.out.below hb).mono hb.size) (by omega))
      have hrl := refL_le l
      have CQ := Lib.hid (fun A A' c c' w h h' => eqstrs_same A A' c c' (refL l) w h h' (by omega))
      unfold RefRes at CF CG
      unfold entV at CI CJ CR CS
      generalize (indE skip).sg = i0 at *
      generalize (indE skip).v = i1 at *
      generalize (indE skip).d = i2 at *
      generalize indN skip = i3 at *
      generalize (refE id de so skip).sg = r0 at *
      generalize (refE id de so skip).v = r1 at *
      generalize (refE id de so skip).d = r2 at *
      generalize refN id de so skip = r3 at *
      generalize indV use = u0 at *
      generalize indB use = u1 at *
      generalize refL l = RL at *
      obtain ⟨m, hm⟩ : ∃ m, RL.length = m := ⟨_, rfl⟩
      rw [hm] at CF CG CQ
      obtain ⟨n, hn⟩ : ∃ n, l.length = n := ⟨_, rfl⟩
      rw [hn] at HS CF CG ⊢
      clear hsm hl hx hrl hm hn hg h2
      go_enter Try.func5, Try.ntmps5
      go_wp2_with fail
      refine (awake_any _).mono ?_
      rintro e w0 ⟨rfl, hb0⟩
      have C := Lib.hid (HS.out w0 hb0)
      have HB := Lib.hid hb0
      clear hb0 HS
      go_wp2_with fail
      refine C.out.mono ?_
      rintro e _ ⟨rfl, rfl⟩
      clear C
      go_wp2_with fail
      refine (CI.out _).mono ?_
      rintro e w1 ⟨rfl, hb1⟩
      have hs1 := ((St.start w).call HB.out).call hb1
      have HT1 := Lib.hid (hs1.new (g := w1.heap.size) rfl #[.string i0, .int .i64 i1, .string i2] 41)
      obtain ⟨g1, hg1⟩ : ∃ g, w1.heap.size = g := ⟨_, rfl⟩
      rw [hg1] at HT1
      clear hb1 hs1 HB CI
      go_wp2_with fail
      generalize w1.alloc (.cells #[.string i0, .int .i64 i1, .string i2] 41) = v1 at *
      refine (CJ.out _).mono ?_
      rintro e w2 ⟨rfl, hb2⟩
      have HT2 := Lib.hid ((HT1.out.call hb2).new (g := w2.heap.size) rfl #[.string i0, .int .i64 i1, .string i2] 41)
      obtain ⟨g2, hg2⟩ : ∃ g, w2.heap.size = g := ⟨_, rfl⟩
      rw [hg2] at HT2
      clear hb2 HT1 CJ hg1
      go_wp2_with fail
      generalize w2.alloc (.cells #[.string i0, .int .i64 i1, .string i2] 41) = v2 at *
      refine (CN.out _).mono ?_
      rintro e _ ⟨rfl, rfl⟩
      clear hg2 CN
      go_wp2_with fail
      refine (CO.out _).mono ?_
      rintro e _ ⟨rfl, rfl⟩
      clear CO
      go_wp2_with fail
      refine (CR.out _).mono ?_
      rintro e w3 ⟨rfl, hb3⟩
      have HT3 := Lib.hid ((HT2.out.call hb3).new (g := w3.heap.size) rfl #[.string r0, .int .i64 r1, .string r2] 41)
      obtain ⟨g3, hg3⟩ : ∃ g, w3.heap.size = g := ⟨_, rfl⟩
      rw [hg3] at HT3
      clear hb3 HT2 CR
      go_wp2_with fail
      generalize w3.alloc (.cells #[.string r0, .int .i64 r1, .string r2] 41) = v3 at *
      refine (CS.out _).mono ?_
      rintro e w4 ⟨rfl, hb4⟩
      have HT4 := Lib.hid ((HT3.out.call hb4).new (g := w4.heap.size) rfl #[.string r0, .int .i64 r1, .string r2] 41)
      obtain ⟨g4, hg4⟩ : ∃ g, w4.heap.size = g := ⟨_, rfl⟩
      rw [hg4] at HT4
      clear hb4 HT3 CS hg3
      have q4 := (HT4.out.at (i := 0) rfl).cell
      have q3 := (HT4.out.at (i := 1) rfl).cell
      have q2 := (HT4.out.at (i := 2) rfl).cell
      have q1 := (HT4.out.at (i := 3) rfl).cell
      have CF1 := Lib.hid (CF.out _ HT4.out.bel)
      have HB4 := Lib.hid HT4.out.bel
      clear CF HT4
      go_wp2_with fail
      refine CF1.out.mono ?_
      rintro e w5 ⟨hb5, A5, c5, rfl, o5⟩
      clear q1 q2 q3 q4 hg4
      have HB5 := Lib.hid (HB4.out.trans (hb5.mono HB4.out.size))
      have CG1 := Lib.hid (CG.out w5 HB5.out)
      have HO5 : Hid (SlAt w5 w5.heap.size A5 (strV RL)) := Lib.hid (SlAt.of_own' o5 (Nat.le_refl _))
      clear hb5 o5 HB4 CF1 CG
      go_wp2_with fail
      refine CG1.out.mono ?_
      rintro e w6 ⟨hb6, A6, c6, rfl, o6⟩
      have HB6 := Lib.hid (HB5.out.trans (hb6.mono HB5.out.size))
      have CQ1 := Lib.hid (CQ.out A5 A6 c5 c6 w6 ((HO5.out.below hb6).mono hb6.size) (SlAt.of_own' o6 (Nat.le_refl _)))
      clear hb6 o6 HB5 CG1 CQ HO5
      go_wp2_with fail
      refine CQ1.out.mono ?_
      rintro e w7 ⟨rfl, hb7⟩
      have HB7 := Lib.hid (HB6.out.trans (hb7.mono HB6.out.size))
      clear hb7 HB6 CQ1
      go_wp2_with fail
      go_ret
      exact ⟨rfl, HB7.out⟩
end Go.Proofs.Ytnomodbcpndocaa
