/-
  The walk of the law SuspGroups.
-/
import Derived.Test.YtnomodbcpndocaaLawA
namespace Go.Proofs.Ytnomodbcpndocaa
open Go.RowKit
set_option linter.unusedVariables false

theorem mem_flat {ll : List (List Ent)} {g : List Ent} (h : g ∈ ll) : g.length ≤ ll.flatten.length ∧ ∀ x ∈ g, x ∈ ll.flatten := by
  refine ⟨?_, fun x hx => List.mem_flatten.2 ⟨g, h, hx⟩⟩
  induction ll with
  | nil => cases h
  | cons a r ih =>
    rw [List.flatten_cons, List.length_append]
    rcases List.mem_cons.1 h with rfl | h
    · omega
    · have := ih h; omega
theorem gr_small {l : List Ent} {r : Int} : (grR l r).length ≤ 64 ∧ ∀ g ∈ grR l r, g.length ≤ 1024 ∧ sizeL g ≤ 262144 ∧ (∀ x ∈ g, errE x = 0 ∧ x.sg ≠ ceS ∧ x.sg ≠ stS) := by
  by_cases h : grE l r = 0
  · obtain ⟨e1, e2, e3, e4, e5, e6, _⟩ := gr_ok h
    rw [e1]
    refine ⟨e4, fun g hg => ?_⟩
    obtain ⟨m1, m2⟩ := mem_flat hg
    rw [e2] at m1 m2
    have he : ∀ x ∈ g, errE x = 0 := fun x hx => (e5 x (m2 x hx)).1
    have := sizeL_le he
    exact ⟨by omega, by omega, fun x hx => e5 x (m2 x hx)⟩
  · rw [gr_no h]
    exact ⟨by simp, fun g hg => by cases hg⟩
set_option maxRecDepth 100000 in
set_option maxHeartbeats 4000000 in
theorem groups_law (A : Option Addr) (len cap : Nat) (l : List Ent) (r : Int) (w : World) (h : IsL encE EntG w A len cap l) (hr : (Lit.int .i64 r).wf = true) :
    Calls Try.prog 4 #[.slice A len cap, .int .i64 r] w fun e w' => e = .returned (.bool true) ∧ Below w.heap.size w w' := by
  obtain ⟨h1, h2, h3, h4, h5⟩ := h
  subst h1
  unfold maxLen at h3
  have HE : Hid (EnAt w w.heap.size A l) := Lib.hid h4
  have HG := Lib.hid h5
  have HS := Lib.hid (fun w' (hb : Below w.heap.size w w') => small_any A cap l 80 w' ((h4.below hb).mono hb.size) (by omega))
  clear h4 h5 hr
  cases hsm : smallB l 80 with
  | false =>
    rw [hsm] at HS
    clear hsm
    go_enter Try.func4, Try.ntmps4
    go_wp2_with fail
    refine (awake_any _).mono ?_
    rintro e w0 ⟨rfl, hb0⟩
    have C := Lib.hid (HS.out w0 hb0)
    have HB := Lib.hid hb0
    clear hb0 HS
    go_wp2_with fail
    refine C.out.mono ?_
    rintro e _ ⟨rfl, rfl⟩
    go_wp2_with fail
    go_ret
    exact ⟨rfl, HB.out⟩
  | true =>
    rw [hsm] at HS
    obtain ⟨hl, hx⟩ := smallB_len hsm
    have CG := Lib.hid (fun w' (hb : Below w.heap.size w w') => groups_any A cap l r w' ((HE.out.below hb).mono hb.size) h2 (fun _ x hm => by have := (hx x hm).2; omega))
    have CR := Lib.hid (fun w' (hb : Below w.heap.size w w') => rgroups_any A cap l r w' ((HE.out.below hb).mono hb.size) h2)
    obtain ⟨s1, s2⟩ := gr_small (l := l) (r := r)
    have CM := Lib.hid (fun A A' c c' hs hs' w h h' hG hG' => samegroups_same A A' c c' hs hs' (grR l r) w h h' hG hG' (by omega) (fun g hg => by have := (s2 g hg).1; omega))
    have CL := Lib.hid (fun A c hs w h hG => lengths_any A c hs (grR l r) w h hG (by omega) (fun g hg => by have := (s2 g hg).2.1; omega))
    have CK := Lib.hid (fun A c hs w h hG => rlengths_any A c hs (grR l r) w h hG (by omega) (fun g hg => by have := (s2 g hg).2.1; omega))
    have CQ := Lib.hid (fun A A' c c' w h h' => eqints_same A A' c c' (lenL (grR l r)) w h h' (by rw [lenL_length]; omega))
    rw [lenL_length] at CQ
    unfold GrRes at CG CR
    unfold LenRes at CL CK
    generalize grE l r = E at *
    generalize hGL : grR l r = GL at *
    generalize lenL GL = LL at *
    obtain ⟨n, hn⟩ : ∃ n, GL.length = n := ⟨_, rfl⟩
    rw [hn] at CG CR CM CL CK CQ
    clear hsm hGL s1 s2 hx hn
    go_enter Try.func4, Try.ntmps4
    go_wp2_with fail
    refine (awake_any _).mono ?_
    rintro e w0 ⟨rfl, hb0⟩
    have C := Lib.hid (HS.out w0 hb0)
    have C1 := Lib.hid (CG.out w0 hb0)
    have HB := Lib.hid hb0
    clear hb0 HS CG
    go_wp2_with fail
    refine C.out.mono ?_
    rintro e _ ⟨rfl, rfl⟩
    go_wp2_with fail
    refine C1.out.mono ?_
    rintro e w1 ⟨hb1, A1, c1, hs1, rfl, _, h1, g1⟩
    have HB1 := Lib.hid (HB.out.trans (hb1.mono HB.out.size))
    have C2 := Lib.hid (CR.out w1 HB1.out)
    have HF1 := Lib.hid (And.intro h1 g1)
    clear hb1 HB C1 C h1 g1 CR
    go_wp2_with fail
    refine C2.out.mono ?_
    rintro e w2 ⟨hb2, A2, c2, hs2, rfl, _, h2', g2⟩
    have HB2 := Lib.hid (HB1.out.trans (hb2.mono HB1.out.size))
    have C3 := Lib.hid (CM.out A1 A2 c1 c2 hs1 hs2 w2 ((HF1.out.1.below hb2).mono hb2.size) h2' ((HF1.out.2.below hb2).mono hb2.size) g2)
    have HF2 := Lib.hid (And.intro h2' g2)
    clear hb2 HB1 C2 h2' g2 CM HF1
    go_wp2_with fail
    refine C3.out.mono ?_
    rintro e w3 ⟨rfl, hb3⟩
    have HB3 := Lib.hid (HB2.out.trans (hb3.mono HB2.out.size))
    have HF3 := Lib.hid (And.intro ((HF2.out.1.below hb3).mono hb3.size) ((HF2.out.2.below hb3).mono hb3.size))
    have C4 := Lib.hid (CL.out A2 c2 hs2 w3 HF3.out.1 HF3.out.2)
    clear hb3 HB2 C3 HF2 CL
    go_wp2_with fail
    refine C4.out.mono ?_
    rintro e w4 ⟨hb4, A4, c4, rfl, _, o4⟩
    have HB4 := Lib.hid (HB3.out.trans (hb4.mono HB3.out.size))
    have C5 := Lib.hid (CK.out A2 c2 hs2 w4 ((HF3.out.1.below hb4).mono hb4.size) ((HF3.out.2.below hb4).mono hb4.size))
    have HO4 : Hid (SlAt w4 w4.heap.size A4 (intV LL)) := Lib.hid (SlAt.of_own' o4 (Nat.le_refl _))
    clear hb4 HB3 C4 HF3 CK o4
    go_wp2_with fail
    refine C5.out.mono ?_
    rintro e w5 ⟨hb5, A5, c5, rfl, _, o5⟩
    have HB5 := Lib.hid (HB4.out.trans (hb5.mono HB4.out.size))
    have C6 := Lib.hid (CQ.out A4 A5 c4 c5 w5 ((HO4.out.below hb5).mono hb5.size) (SlAt.of_own' o5 (Nat.le_refl _)))
    clear hb5 HB4 C5 HO4 CQ o5
    go_wp2_with fail
    refine C6.out.mono ?_
    rintro e w6 ⟨rfl, hb6⟩
    have HB6 := Lib.hid (HB5.out.trans (hb6.mono HB5.out.size))
    clear hb6 HB5 C6
    go_wp2_with fail
    go_ret
    exact ⟨rfl, HB6.out⟩
end Go.Proofs.Ytnomodbcpndocaa
