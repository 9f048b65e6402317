/-
  The walk of the law SuspBytes.
-/
import Derived.Test.YtnomodbcpndocaaOpE
namespace Go.Proofs.Ytnomodbcpndocaa
open Go.RowKit
set_option linter.unusedVariables false

theorem smallB_len {l : List Ent} {n : Int} (h : smallB l n = true) : (l.length : Int) ≤ n ∧ ∀ x ∈ l, x.d.size ≤ 400 ∧ x.sg.size ≤ 20 := by
  unfold smallB at h
  rw [Bool.and_eq_true, decide_eq_true_eq, List.all_eq_true] at h
  refine ⟨h.1, fun x hx => ?_⟩
  have := h.2 x hx
  unfold smallE at this
  simpa using this
set_option maxRecDepth 100000 in
set_option maxHeartbeats 4000000 in
theorem bytes_law (A : Option Addr) (len cap : Nat) (l : List Ent) (s : ByteArray) (w : World) (h : IsL encE EntG w A len cap l) (hs : s.size ≤ maxLen) :
    Calls Try.prog 3 #[.slice A len cap, .string s] w fun e w' => e = .returned (.bool true) ∧ Below w.heap.size w w' := by
  obtain ⟨h1, h2, h3, h4, h5⟩ := h
  subst h1
  unfold maxLen at h3 hs
  have HE : Hid (EnAt w w.heap.size A l) := Lib.hid h4
  have HG := Lib.hid h5
  have HS := Lib.hid (fun w' (hb : Below w.heap.size w w') => small_any A cap l 40 w' ((h4.below hb).mono hb.size) (by omega))
  clear h4 h5
  by_cases hg : (smallB l 40 = false ∧ l.length ≤ 1024) ∨ 3000 < s.size
  · cases hsm : smallB l 40 with
    | false =>
      rw [hsm] at HS hg
      by_cases h24 : l.length ≤ 1024
      · have h24I : (l.length : Int) ≤ 1024 := by omega
        clear hg hsm
        go_enter Try.func3, Try.ntmps3
        go_wp2_with fail
        refine (awake_any _).mono ?_
        rintro e w0 ⟨rfl, hb0⟩
        have C := Lib.hid (HS.out w0 hb0)
        have HB := Lib.hid hb0
        clear hb0 HS
        go_wp2_with fail
        refine C.out.mono ?_
        rintro e _ ⟨rfl, rfl⟩
        go_wp2_with fail
        go_ret
        exact ⟨rfl, HB.out⟩
      · have h24I : ¬ (l.length : Int) ≤ 1024 := by omega
        have hsI : (3000 : Int) < (s.size : Int) := by omega
        clear hg hsm
        go_enter Try.func3, Try.ntmps3
        go_wp2_with fail
        refine (awake_any _).mono ?_
        rintro e w0 ⟨rfl, hb0⟩
        have C := Lib.hid (HS.out w0 hb0)
        have HB := Lib.hid hb0
        clear hb0 HS
        go_wp2_with fail
        refine C.out.mono ?_
        rintro e _ ⟨rfl, rfl⟩
        go_wp2_with fail
        go_ret
        exact ⟨rfl, HB.out⟩
    | true =>
      rw [hsm] at HS hg
      have hsI : (3000 : Int) < (s.size : Int) := by
        rcases hg with h | h
        · cases h.1
        · omega
      clear hg hsm
      go_enter Try.func3, Try.ntmps3
      go_wp2_with fail
      refine (awake_any _).mono ?_
      rintro e w0 ⟨rfl, hb0⟩
      have C := Lib.hid (HS.out w0 hb0)
      have HB := Lib.hid hb0
      clear hb0 HS
      go_wp2_with fail
      refine C.out.mono ?_
      rintro e _ ⟨rfl, rfl⟩
      go_wp2_with fail
      go_ret
      exact ⟨rfl, HB.out⟩
  · have hs3 : s.size ≤ 3000 := by omega
    have hsI : ¬ (3000 : Int) < (s.size : Int) := by omega
    have hsg : l.length ≤ 1024 → ∀ x ∈ l, x.sg.size ≤ 140737488351232 := by
      intro hl x hx
      have hsm : smallB l 40 = true := by
        cases hb : smallB l 40 with
        | true => rfl
        | false => exact absurd (.inl ⟨hb, hl⟩) hg
      have := (smallB_len hsm).2 x hx
      omega
    have CE := Lib.hid (fun w' (hb : Below w.heap.size w w') => encode_any A cap l w' ((HE.out.below hb).mono hb.size) hsg)
    have CR := Lib.hid (fun w' (hb : Below w.heap.size w w') => rencode_any A cap l w' ((HE.out.below hb).mono hb.size))
    have CZ := Lib.hid (fun w' (hb : Below w.heap.size w w') => size_any A cap l w' ((HE.out.below hb).mono hb.size) (by omega) (fun x hx => (HG.out x hx).d))
    have CY := Lib.hid (fun w' (hb : Below w.heap.size w w') => rsize_any A cap l w' ((HE.out.below hb).mono hb.size) (by omega))
    have CD := Lib.hid (fun w' => decode_any s w' (by omega))
    have CC := Lib.hid (fun w' => rdecode_any s w' (by omega))
    have hdl := decL_len s
    have CM := Lib.hid (fun A A' c c' w h h' => ents_same A A' c c' (decL s) w h h' (by omega))
    unfold DecRes at CD CC
    generalize decL s = L at *
    generalize decE s = E at *
    generalize encS l = S at *
    generalize checkL l = K at *
    generalize wrap64 ((sizeL l : Nat) : Int) = Z at *
    obtain ⟨m, hm⟩ : ∃ m, L.length = m := ⟨_, rfl⟩
    rw [hm] at CD CC CM
    obtain ⟨n, hn⟩ : ∃ n, l.length = n := ⟨_, rfl⟩
    have HSB : Hid ((smallB l 40 = true) ∨ (smallB l 40 = false ∧ 1024 < n)) := Lib.hid (by
      cases hb : smallB l 40 with
      | true => exact .inl rfl
      | false => exact .inr ⟨rfl, by rw [← hn]; exact Nat.lt_of_not_le fun h => hg (.inl ⟨hb, h⟩)⟩)
    rw [hn] at HS CE CR CZ CY h2 ⊢
    generalize smallB l 40 = SB at *
    clear hg hsg hn hm hdl
    have fin : ∀ (W : World), Below w.heap.size w W → True := fun _ _ => trivial
    clear fin
    rcases HSB.out with hsb | ⟨hsb, h24⟩
    all_goals
      subst hsb
      first | (have h24I : ¬ (n : Int) ≤ 1024 := by omega) | skip
      go_enter Try.func3, Try.ntmps3
      go_wp2_with fail
      refine (awake_any _).mono ?_
      rintro e w0 ⟨rfl, hb0⟩
      have C := Lib.hid (HS.out w0 hb0)
      have C1 := Lib.hid (CE.out w0 hb0)
      have HB := Lib.hid hb0
      clear hb0 HS
      go_wp2_with fail
      refine C.out.mono ?_
      rintro e _ ⟨rfl, rfl⟩
      go_wp2_with fail
      refine C1.out.mono ?_
      rintro e w1 ⟨rfl, hb1⟩
      have HB1 := Lib.hid (HB.out.trans (hb1.mono HB.out.size))
      have C2 := Lib.hid (CR.out w1 HB1.out)
      clear hb1 C1 C CE CR HB
      go_wp2_with fail
      refine C2.out.mono ?_
      rintro e w2 ⟨rfl, hb2⟩
      have HB2 := Lib.hid (HB1.out.trans (hb2.mono HB1.out.size))
      clear hb2 C2 HB1
      go_wp2_with fail
      refine (CD.out _).mono ?_
      rintro e w3 ⟨hb3, A3, c3, rfl, ho3⟩
      have HB3 := Lib.hid (HB2.out.trans (hb3.mono HB2.out.size))
      have HO3 : Hid (EnAt w3 w3.heap.size A3 L) := Lib.hid (SlAt.of_own' ho3 (Nat.le_refl _))
      clear hb3 HB2 ho3 CD
      go_wp2_with fail
      refine (CC.out _).mono ?_
      rintro e w4 ⟨hb4, A4, c4, rfl, ho4⟩
      have HB4 := Lib.hid (HB3.out.trans (hb4.mono HB3.out.size))
      have HO4 : Hid (EnAt w4 w4.heap.size A4 L) := Lib.hid (SlAt.of_own' ho4 (Nat.le_refl _))
      have HO34 := Lib.hid (HO3.out.all hb4)
      have C5 := Lib.hid (CZ.out w4 HB4.out)
      clear hb4 HB3 ho4 CC HO3
      go_wp2_with fail
      refine C5.out.mono ?_
      rintro e w5 ⟨rfl, hb5⟩
      have HB5 := Lib.hid (HB4.out.trans (hb5.mono HB4.out.size))
      have C6 := Lib.hid (CY.out w5 HB5.out)
      have C7 := Lib.hid (CM.out A3 A4 c3 c4 w5 (HO34.out.all hb5) (HO4.out.all hb5))
      clear hb5 HB4 C5 HO34 HO4 CZ CY CM
      go_wp2_with fail
      refine C6.out.mono ?_
      rintro e _ ⟨rfl, rfl⟩
      go_wp2_with fail
      refine C7.out.mono ?_
      rintro e w6 ⟨rfl, hb6⟩
      have HB6 := Lib.hid (HB5.out.trans (hb6.mono HB5.out.size))
      clear hb6 HB5 C7 C6
      go_wp2_with fail
      go_ret
      exact ⟨rfl, HB6.out⟩
end Go.Proofs.Ytnomodbcpndocaa
