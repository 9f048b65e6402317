/-
  Chapter 24: the walks of example and awake.
-/
import Derived.Test.YtnomodbcpndocaaSuZ
import Derived.Deep.Cut
namespace Go.Proofs.Ytnomodbcpndocaa
open Go.RowKit
set_option linter.unusedVariables false

theorem enAt_lit {W : World} {g C : Nat} {cs : List Value} {l : List Ent} (h : RowAt W g 41 cs.toArray) (hl : flat encE l = cs) (hg : g < C) : EnAt W C (some ⟨g, 0, none⟩) l := fun j u hu =>
  ⟨g, 0, rfl, hg, by rw [Nat.zero_add, h.cell j]; rw [hl] at hu; simpa using hu⟩
theorem slAt_lit {W : World} {g C : Nat} {t : TypeId} {cs : List Value} (h : RowAt W g t cs.toArray) (hg : g < C) : SlAt W C (some ⟨g, 0, none⟩) cs := fun j u hu =>
  ⟨g, 0, rfl, hg, by rw [Nat.zero_add, h.cell j]; simpa using hu⟩

set_option maxHeartbeats 1000000 in
theorem example_any (w : World) : Calls Try.prog 43 #[] w fun e w' => Below w.heap.size w w' ∧ ∃ A c, e = .returned (.slice A 3 c) ∧ 3 ≤ c ∧ EnAt w' w'.heap.size A exL := by
  have C : Hid (∀ w, Calls Try.prog 34 #[.string ⟨#[120]⟩, .int .i64 96] w fun e w' => e = .returned (.string exX.d) ∧ Below w.heap.size w w') := Lib.hid fun w => by
    have := Try.strings_Repeat ⟨#[120]⟩ 96 w (by decide) (by decide)
    rw [show (⟨(Lib.repeatL (⟨#[120]⟩ : ByteArray).data.toList 96).toArray⟩ : ByteArray) = exX.d by rw [show (⟨#[120]⟩ : ByteArray).data.toList = [120] from rfl, repeat_one]; rfl] at this
    exact this
  have HX : Hid (exL = [⟨⟨#[88, 88]⟩, 1, exX.d⟩, ⟨⟨#[88, 88]⟩, 1, exX.d⟩, ⟨⟨#[88, 88]⟩, 1, exX.d⟩]) := Lib.hid rfl
  rw [HX.out]
  generalize exX.d = D at *
  go_enter Try.func43, Try.ntmps43
  go_wp2_with fail
  refine (C.out _).mono ?_
  rintro e w1 ⟨rfl, hb1⟩
  have h1 := ((St.start w).call hb1).new (g := w1.heap.size) rfl #[.string ⟨#[88, 88]⟩, .int .i64 1, .string D] 41
  have HR := Lib.hid (RowAt.new (w1.alloc (.cells #[.string ⟨#[88, 88]⟩, .int .i64 1, .string D] 41)) 41 #[.string ⟨#[88, 88]⟩, .int .i64 1, .string D, .string ⟨#[88, 88]⟩, .int .i64 1, .string D, .string ⟨#[88, 88]⟩, .int .i64 1, .string D])
  have HB := Lib.hid (h1.bel.alloc h1.bel.size (.cells #[.string ⟨#[88, 88]⟩, .int .i64 1, .string D, .string ⟨#[88, 88]⟩, .int .i64 1, .string D, .string ⟨#[88, 88]⟩, .int .i64 1, .string D] 41))
  clear hb1 h1
  go_wp2_with fail
  go_ret
  refine ⟨HB.out, _, _, rfl, by omega, ?_⟩
  have h := HR.out
  simp only [World.size_alloc] at h
  exact enAt_lit h rfl (by simp)

theorem ex_mem {x : Ent} (h : x ∈ exL) : x = exX := by simpa [exL] using h
theorem aw_ind : entV (indE 2) = .agg #[.string ⟨#[83, 80]⟩, .int .i64 1, .string ⟨#[190, 239, 2]⟩] ∧ indN 2 = 0 := ⟨by kernel_rfl, by kernel_rfl⟩
theorem aw_ref : entV (refE ⟨#[73, 68]⟩ ⟨#[100]⟩ ⟨#[115]⟩ 1) = .agg #[.string ⟨#[69, 82]⟩, .int .i64 1, .string ⟨#[2, 1, 1, 1, 73, 68, 100, 115]⟩] ∧ refN ⟨#[73, 68]⟩ ⟨#[100]⟩ ⟨#[115]⟩ 1 = 0 := ⟨by kernel_rfl, by kernel_rfl⟩
theorem aw_indd : indV ⟨#[83, 80, 7, 1, 190, 239, 2]⟩ = 2 ∧ indB ⟨#[83, 80, 7, 1, 190, 239, 2]⟩ = true := ⟨by kernel_rfl, by kernel_rfl⟩
def awR : List Ent := [⟨⟨#[69, 82]⟩, 1, ⟨#[2, 1, 1, 1, 73, 68, 100, 115]⟩⟩]
theorem aw_refL : refL awR = [⟨#[73, 68]⟩] := by kernel_rfl
/-- What awake has made so far. -/
structure AwF (A1 A2 A3 : Option Addr) (hs : List Value) (l1 : List Ent) (ss : List ByteArray) (W : World) : Prop where
  f1 : EnAt W W.heap.size A1 l1
  f2 : SlAt W W.heap.size A2 hs
  f3 : GrAt W W.heap.size hs exG
  f4 : SlAt W W.heap.size A3 (strV ss)
theorem AwF.step {A1 A2 A3 : Option Addr} {hs : List Value} {l1 : List Ent} {ss : List ByteArray} {W W' : World} (h : AwF A1 A2 A3 hs l1 ss W) (hb : Below W.heap.size W W') : AwF A1 A2 A3 hs l1 ss W' :=
  ⟨h.f1.all hb, (h.f2.below hb).mono hb.size, (h.f3.below hb).mono hb.size, (h.f4.below hb).mono hb.size⟩
def awE : List Ent := [⟨⟨#[78, 77]⟩, 1, ⟨#[0, 97, 98]⟩⟩]
def awS : ByteArray := ⟨#[78, 77, 7, 1, 0, 97, 98]⟩
theorem aw_enc : encS awE = awS ∧ checkL awE = 0 := by decide +kernel
theorem aw_dec : decL ⟨#[78, 77, 7, 1, 0, 97, 98, 0, 0, 0, 0]⟩ = awE ∧ decE ⟨#[78, 77, 7, 1, 0, 97, 98, 0, 0, 0, 0]⟩ = 0 := by
  have h := dec_full (l := awE) (t := ⟨#[78, 77, 7, 1, 0, 97, 98, 0, 0, 0, 0]⟩) (R := [0, 0, 0, 0]) (by decide) (by intro x hx; rw [List.mem_singleton.1 hx]; decide) (by intro x hx; rw [List.mem_singleton.1 hx]; decide) stop_zero
  exact ⟨h.2, h.1⟩
def awB0 : ByteArray := jT exG exP 0
def awB1 : ByteArray := jT exG exP 1
theorem aw_joinR : joinR exG exP = [awB0, awB1] := by
  unfold joinR
  rw [if_pos ex_join]
  rfl
theorem aw_sizes : awB0.size = 128 ∧ awB1.size = 200 := by
  have h := (joinE_zero ex_join).2.2
  have h0 := jT_size h (k := 0) (by decide)
  have h1 := jT_size h (k := 1) (by decide)
  have e0 : jL exG 0 = 128 := by unfold jL; rw [ex_len]; rfl
  have e1 : jL exG 1 = 200 := by unfold jL; rw [ex_len]; rfl
  rw [e0] at h0
  rw [e1] at h1
  unfold awB0 awB1
  omega
def awK : ByteArray := ⟨(List.replicate 7 (0 : UInt8)).toArray⟩ ++ awB1 ++ ⟨(List.replicate 1841 (0 : UInt8)).toArray⟩
theorem awK_size : awK.size = 2048 := by
  unfold awK
  rw [ByteArray.size_append, ByteArray.size_append, aw_sizes.2, size_mk, size_mk, List.length_replicate, List.length_replicate]
theorem awK_ext : awK.extract 7 207 = awB1 := mk_ext (by
  rw [ext_data]
  unfold awK
  have h := aw_sizes.2
  rw [size_data] at h
  simp only [ByteArray.data_append, Array.toList_append, List.append_assoc]
  rw [List.drop_append_of_le_length (by simp), show List.drop 7 (List.replicate 7 (0 : UInt8)) = [] from rfl, List.nil_append, show 207 - 7 = awB1.data.toList.length by omega, List.take_left])
theorem aw_walk : wkY [⟨#[]⟩, awK] (⟨#[63, 63]⟩ ++ awB0) 2 = (exG, (wkY [⟨#[]⟩, awK] (⟨#[63, 63]⟩ ++ awB0) 2).2.1, 0) := by
  have hU : skU (⟨#[63, 63]⟩ ++ awB0) 2 = jT exG exP 0 := by
    unfold skU
    apply mk_ext
    rw [ext_data, ByteArray.size_append, aw_sizes.1]
    show List.take 128 (List.drop 2 (⟨#[63, 63]⟩ ++ awB0 : ByteArray).data.toList) = _
    have h := aw_sizes.1
    rw [size_data] at h
    simp only [ByteArray.data_append, Array.toList_append]
    show List.take 128 awB0.data.toList = _
    rw [List.take_of_length_le (by omega)]
    rfl
  obtain ⟨a', h⟩ := walk_all (ll := exG) (ps := exP) (img := [⟨#[]⟩, awK]) (joinE_zero ex_join).2.2 (by
    intro k hk x hx
    have : x = exX := by
      have hk2 : k = 0 ∨ k = 1 := by simp [exG] at hk; omega
      rcases hk2 with rfl | rfl <;> simpa [jG, exG] using hx
    rw [this]
    decide) (by
    intro i h1 h2
    have hi : i = 1 := by simp [exG] at h2; omega
    subst hi
    have e1 : jL exG 1 = 200 := by unfold jL; rw [ex_len]; rfl
    refine ⟨awK, rfl, awK_size, ?_⟩
    rw [e1]
    exact awK_ext) 1 0 65 0 rfl (by omega)
  unfold wkY
  rw [hU, h]
  rfl

set_option maxRecDepth 100000 in
set_option maxHeartbeats 8000000 in
theorem awake_any (w : World) : Calls Try.prog 9 #[] w fun e w' => e = .returned (.bool true) ∧ Below w.heap.size w w' := by
  have CE : Hid (∀ W, EnAt W W.heap.size (some ⟨w.heap.size, 0, none⟩) awE → Calls Try.prog 11 #[.slice (some ⟨w.heap.size, 0, none⟩) 1 1] W fun e w' => e = .returned (.tuple #[.string ⟨#[78, 77, 7, 1, 0, 97, 98]⟩, .int .i64 0]) ∧ Below W.heap.size W w') := Lib.hid fun W h => by
    have := encode_any (some ⟨w.heap.size, 0, none⟩) 1 awE W h (fun _ x hx => by rw [List.mem_singleton.1 hx]; decide)
    rw [aw_enc.1, aw_enc.2] at this
    exact this
  have CD : Hid (∀ W, Calls Try.prog 13 #[.string ⟨#[78, 77, 7, 1, 0, 97, 98, 0, 0, 0, 0]⟩] W fun e w' => Below W.heap.size W w' ∧ ∃ A c, e = .returned (.tuple #[.slice A 1 c, .int .i64 0]) ∧ EnAt w' w'.heap.size A awE) := Lib.hid fun W => by
    refine (decode_any ⟨#[78, 77, 7, 1, 0, 97, 98, 0, 0, 0, 0]⟩ W (by decide)).mono ?_
    rintro e w' ⟨hb, A, c, rfl, ho⟩
    rw [aw_dec.1] at ho
    exact ⟨hb, A, c, by rw [aw_dec.1, aw_dec.2]; rfl, SlAt.of_own' ho (Nat.le_refl _)⟩
  have CG : Hid (∀ (A : Option Addr) (c : Nat) (W : World), 3 ≤ c → EnAt W W.heap.size A exL → Calls Try.prog 18 #[.slice A 3 c, .int .i64 200] W fun e w' => Below W.heap.size W w' ∧ ∃ A c hs, e = .returned (.tuple #[.slice A 2 c, .int .i64 0]) ∧ SlAt w' w'.heap.size A hs ∧ GrAt w' w'.heap.size hs exG) := Lib.hid fun A c W hc h => by
    refine (groups_any A c exL 200 W h hc (fun _ x hx => by rw [ex_mem hx]; decide)).mono ?_
    rintro e w' ⟨hb, A', c', hs, rfl, _, h1, h2⟩
    rw [ex_gr.2] at h2
    exact ⟨hb, A', c', hs, by rw [ex_gr.1, ex_gr.2]; rfl, h1, h2⟩
  have CJ : Hid (∀ (A Ap : Option Addr) (c cp : Nat) (hs : List Value) (W : World), SlAt W W.heap.size A hs → GrAt W W.heap.size hs exG → PlAt W W.heap.size Ap exP → Calls Try.prog 33 #[.slice A 2 c, .slice Ap 1 cp] W fun e w' => Below W.heap.size W w' ∧ ∃ A c, e = .returned (.tuple #[.slice A 2 c, .int .i64 0]) ∧ SlAt w' w'.heap.size A (strV [awB0, awB1])) := Lib.hid fun A Ap c cp hs W h1 h2 h3 => by
    have hm : ∀ l ∈ exG, ∀ x ∈ l, x = exX := by
      intro l hl x hx
      simp only [exG, List.mem_cons, List.not_mem_nil, or_false] at hl
      rcases hl with rfl | rfl <;> simpa using hx
    refine (join_any A Ap c cp hs exG exP W h1 h2 h3 (by decide) (by decide) (by intro l hl; simp only [exG, List.mem_cons, List.not_mem_nil, or_false] at hl; rcases hl with rfl | rfl <;> decide +kernel) (fun l hl x hx => by rw [hm l hl x hx]; decide) (by intro p hp; rw [List.mem_singleton.1 hp]; exact ⟨by decide, by decide⟩)).mono ?_
    rintro e w' ⟨hb, A', c', rfl, h4⟩
    rw [aw_joinR] at h4
    exact ⟨hb, A', c', by rw [ex_join, aw_joinR]; rfl, h4⟩
  have CR : Hid (∀ (n : Nat) W, n ≤ 100000 → Calls Try.prog 34 #[.string ⟨#[0]⟩, .int .i64 (n : Int)] W fun e w' => e = .returned (.string ⟨(List.replicate n (0 : UInt8)).toArray⟩) ∧ Below W.heap.size W w') := Lib.hid fun n W hn => by
    have := Try.strings_Repeat ⟨#[0]⟩ n W (by omega) (by show 1 * n ≤ _; omega)
    rw [show (⟨#[0]⟩ : ByteArray).data.toList = [0] from rfl, repeat_one] at this
    exact this
  have CR7 := Lib.hid (fun W => CR.out 7 W (by omega))
  have CR18 := Lib.hid (fun W => CR.out 1841 W (by omega))
  have CW : Hid (∀ (A : Option Addr) (W : World), SlAt W W.heap.size A (strV [⟨#[]⟩, awK]) → Calls Try.prog 35 #[.slice A 2 2, .string (⟨#[63, 63]⟩ ++ awB0), .int .i64 2] W fun e w' => Below W.heap.size W w' ∧ ∃ A c, e = .returned (.tuple #[.slice A 3 c, .int .i64 0, .int .i64 0]) ∧ EnAt w' w'.heap.size A exL) := Lib.hid fun A W h => by
    have hw := aw_walk
    have h1 : (wkY [⟨#[]⟩, awK] (⟨#[63, 63]⟩ ++ awB0) 2).1 = exG := by rw [hw]
    have h2 : (wkY [⟨#[]⟩, awK] (⟨#[63, 63]⟩ ++ awB0) 2).2.2 = 0 := by rw [hw]
    have h3 : wkL [⟨#[]⟩, awK] (⟨#[63, 63]⟩ ++ awB0) 2 = exL := by unfold wkL; rw [if_pos h2, h1]; rfl
    have h4 : wkB [⟨#[]⟩, awK] (⟨#[63, 63]⟩ ++ awB0) 2 = 0 := by unfold wkB; rw [if_pos h2]
    have hl2 : ([⟨#[]⟩, awK] : List ByteArray).length = 2 := rfl
    have hl3 : exG.flatten.length ≤ 1024 := by show 3 ≤ 1024; omega
    have hu : ((⟨#[63, 63]⟩ : ByteArray) ++ awB0).size ≤ 1000000 := by rw [ByteArray.size_append, aw_sizes.1]; show 2 + 128 ≤ 1000000; omega
    have key := walk_any A 2 [⟨#[]⟩, awK] (⟨#[63, 63]⟩ ++ awB0) 2 W h (by rw [hl2]; omega) hu (by rw [h1]; exact hl3)
    rw [hl2] at key
    unfold WalkRes at key
    rw [h2, h3, h4] at key
    exact key
  have CI : Hid (∀ W, Calls Try.prog 24 #[.int .i64 2] W fun e w' => e = .returned (.tuple #[.agg #[.string ⟨#[83, 80]⟩, .int .i64 1, .string ⟨#[190, 239, 2]⟩], .int .i64 0]) ∧ Below W.heap.size W w') := Lib.hid fun W => by
    have := indicator_any 2 W
    rwa [aw_ind.1, aw_ind.2] at this
  have CF : Hid (∀ W, Calls Try.prog 28 #[.string ⟨#[73, 68]⟩, .string ⟨#[100]⟩, .string ⟨#[115]⟩, .int .i64 1] W fun e w' => e = .returned (.tuple #[.agg #[.string ⟨#[69, 82]⟩, .int .i64 1, .string ⟨#[2, 1, 1, 1, 73, 68, 100, 115]⟩], .int .i64 0]) ∧ Below W.heap.size W w') := Lib.hid fun W => by
    have := reference_any ⟨#[73, 68]⟩ ⟨#[100]⟩ ⟨#[115]⟩ 1 W (by decide)
    rwa [aw_ref.1, aw_ref.2] at this
  have CN : Hid (∀ W, Calls Try.prog 26 #[.string ⟨#[83, 80, 7, 1, 190, 239, 2]⟩] W fun e w' => e = .returned (.tuple #[.int .i64 2, .bool true]) ∧ W = w') := Lib.hid fun W => by
    have := indicated_any ⟨#[83, 80, 7, 1, 190, 239, 2]⟩ W
    rwa [aw_indd.1, aw_indd.2] at this
  have CL : Hid (∀ (A : Option Addr) (c : Nat) (hs : List Value) (W : World), SlAt W W.heap.size A hs → GrAt W W.heap.size hs exG → Calls Try.prog 22 #[.slice A 2 c] W fun e w' => Below W.heap.size W w' ∧ ∃ A c, e = .returned (.slice A 2 c) ∧ SlAt w' w'.heap.size A (intV [128, 200])) := Lib.hid fun A c hs W h1 h2 => by
    refine (lengths_any A c hs exG W h1 h2 (by decide) (by intro l hl; simp only [exG, List.mem_cons, List.not_mem_nil, or_false] at hl; rcases hl with rfl | rfl <;> decide +kernel)).mono ?_
    rintro e w' ⟨hb, A', c', rfl, _, h3⟩
    rw [ex_len] at h3
    exact ⟨hb, A', c', rfl, SlAt.of_own' h3 (Nat.le_refl _)⟩
  have CS : Hid (∀ (A : Option Addr) (c : Nat) (W : World), EnAt W W.heap.size A exL → Calls Try.prog 15 #[.slice A 3 c] W fun e w' => e = .returned (.int .i64 300) ∧ Below W.heap.size W w') := Lib.hid fun A c W h => by
    have := size_any A c exL W h (by decide) (by intro x hx; rw [ex_mem hx]; decide)
    rwa [show wrap64 ((sizeL exL : Nat) : Int) = 300 by decide +kernel] at this
  have CRf : Hid (∀ (A : Option Addr) (W : World), EnAt W W.heap.size A awR → Calls Try.prog 31 #[.slice A 1 1] W fun e w' => Below W.heap.size W w' ∧ ∃ A c, e = .returned (.slice A 1 c) ∧ SlAt w' w'.heap.size A (strV [⟨#[73, 68]⟩])) := Lib.hid fun A W h => by
    refine (references_any A 1 awR W h (by decide)).mono ?_
    rintro e w' ⟨hb, A', c', rfl, ho⟩
    rw [aw_refL] at ho ⊢
    exact ⟨hb, A', c', rfl, SlAt.of_own' ho (Nat.le_refl _)⟩
  have CQs := Lib.hid (fun A A' c c' W h h' => eqstrs_same A A' c c' [⟨#[73, 68]⟩] W h h' (by decide))
  have CM := Lib.hid (fun A A' c c' W h h' => ents_same A A' c c' exL W h h' (by decide))
  have CQ := Lib.hid (fun A A' c c' W h h' => eqints_same A A' c c' [128, 200] W h h' (by decide))
  have hst := (St.start w).new (g := w.heap.size) rfl #[.string ⟨#[78, 77]⟩, .int .i64 1, .string ⟨#[0, 97, 98]⟩] 41
  have CE1 := Lib.hid (CE.out (w.alloc (.cells #[.string ⟨#[78, 77]⟩, .int .i64 1, .string ⟨#[0, 97, 98]⟩] 41)) (enAt_lit (cs := [.string ⟨#[78, 77]⟩, .int .i64 1, .string ⟨#[0, 97, 98]⟩]) (hst.at (i := 0) rfl) rfl (by simp)))
  have HB0 := Lib.hid hst.bel
  have z0 := aw_sizes.1
  have z1 := aw_sizes.2
  have HKK : Hid (awK = ⟨(List.replicate 7 (0 : UInt8)).toArray⟩ ++ awB1 ++ ⟨(List.replicate 1841 (0 : UInt8)).toArray⟩) := Lib.hid rfl
  have y7 : (⟨(List.replicate 7 (0 : UInt8)).toArray⟩ : ByteArray).size = 7 := by rw [size_mk, List.length_replicate]
  have y18 : (⟨(List.replicate 1841 (0 : UInt8)).toArray⟩ : ByteArray).size = 1841 := by rw [size_mk, List.length_replicate]
  generalize (⟨(List.replicate 7 (0 : UInt8)).toArray⟩ : ByteArray) = S7 at *
  generalize (⟨(List.replicate 1841 (0 : UInt8)).toArray⟩ : ByteArray) = S18 at *
  generalize awK = KK at *
  generalize awB0 = B0 at *
  generalize awB1 = B1 at *
  have hz7 : S7.size ≤ 7 := by omega
  have hz18 : S18.size ≤ 1841 := by omega
  have HZ0 := Lib.hid z0
  have HZ1 := Lib.hid z1
  have hzz0 : B0.size ≤ 128 := by omega
  have hzz1 : B1.size ≤ 200 := by omega
  clear hst CE CR y7 y18 z0 z1
  go_enter Try.func9, Try.ntmps9
  go_wp2_with fail
  refine CE1.out.mono ?_
  rintro e w1 ⟨rfl, hb1⟩
  have HB1 := Lib.hid (HB0.out.trans (hb1.mono HB0.out.size))
  clear hb1 HB0 CE1
  go_wp2_with fail
  refine (CD.out _).mono ?_
  rintro e w2 ⟨hb2, A1, c1, rfl, hE1⟩
  have HB2 := Lib.hid (HB1.out.trans (hb2.mono HB1.out.size))
  have HE1 := Lib.hid hE1
  clear hb2 HB1 CD hE1
  go_wp2_with fail
  refine (example_any _).mono ?_
  rintro e w3 ⟨hb3, Ax, cx, rfl, hcx, hEx⟩
  have HB3 := Lib.hid (HB2.out.trans (hb3.mono HB2.out.size))
  have HE3 := Lib.hid (HE1.out.all hb3)
  have CG1 := Lib.hid (CG.out Ax cx w3 hcx hEx)
  clear hb3 HB2 HE1 hEx CG
  go_wp2_with fail
  refine CG1.out.mono ?_
  rintro e w4 ⟨hb4, A2, c2, hs, rfl, hs4, hg4⟩
  have HB4 := Lib.hid (HB3.out.trans (hb4.mono HB3.out.size))
  have hp4 : Below w4.heap.size w4 (w4.alloc (.cells #[.int .i64 1, .int .i64 7] 53)) := (Below.refl _ _).alloc (Nat.le_refl _) _
  have HP4 := Lib.hid hp4
  have HE4 := Lib.hid ((HE3.out.all hb4).all hp4)
  have HS4 := Lib.hid ((hs4.below hp4).mono hp4.size)
  have HG4 := Lib.hid ((hg4.below hp4).mono hp4.size)
  have CJ1 := Lib.hid (CJ.out A2 (some ⟨w4.heap.size, 0, none⟩) c2 1 hs _ HS4.out HG4.out (slAt_lit (cs := [.int .i64 1, .int .i64 7]) (RowAt.new w4 53 #[.int .i64 1, .int .i64 7]) (by simp)))
  have HB5 := Lib.hid (HB4.out.trans (hp4.mono HB4.out.size))
  clear hb4 hs4 hg4 hp4 HB3 HE3 HB4 CG1 CJ
  go_wp2_with fail
  refine CJ1.out.mono ?_
  rintro e w5 ⟨hb5, A3, c3, rfl, hj5⟩
  have HAW : Hid (AwF A1 A2 A3 hs awE [B0, B1] w5) := Lib.hid ⟨HE4.out.all hb5, (HS4.out.below hb5).mono hb5.size, (HG4.out.below hb5).mono hb5.size, hj5⟩
  have HB6 := Lib.hid (HB5.out.trans (hb5.mono HB5.out.size))
  clear hb5 hj5 HE4 HS4 HG4 HB5 CJ1 HP4
  -- the cells that the tests read
  obtain ⟨b1, o1, hA1, _⟩ := HAW.out.f1.one (by decide)
  subst hA1
  obtain ⟨_, _, p1⟩ := HAW.out.f1.cells rfl (show awE[0]? = some _ from rfl)
  obtain ⟨b2, o2, hA2, _⟩ := HAW.out.f2.addr (by rw [HAW.out.f3.1]; decide)
  subst hA2
  obtain ⟨G0, cg0, e0, _, _⟩ := HAW.out.f3.2 0 [exX] rfl
  obtain ⟨G1, cg1, e1, _, _⟩ := HAW.out.f3.2 1 [exX, exX] rfl
  have p2 := HAW.out.f2.val rfl e0
  have p3 := HAW.out.f2.val rfl e1
  obtain ⟨b3, o3, hA3, _⟩ := HAW.out.f4.strAddr (by simp)
  subst hA3
  have p4 := HAW.out.f4.str rfl (show [B0, B1][0]? = some B0 from rfl)
  have p5 := HAW.out.f4.str rfl (show [B0, B1][1]? = some B1 from rfl)
  rw [show [exX].length = 1 from rfl] at p2
  rw [show [exX, exX].length = 2 from rfl] at p3
  rw [Nat.zero_mul, Nat.add_zero] at p1
  rw [Nat.add_zero] at p2 p4
  have zi0 : (B0.size : Int) = 128 := by have := HZ0.out; omega
  have zi1 : (B1.size : Int) = 200 := by have := HZ1.out; omega
  clear e0 e1
  have HP5 : Hid (∀ w', Below w5.heap.size w5 w' → w'.cell? ⟨b3, o3 + 1, none⟩ = some (.string B1)) := Lib.hid fun w' h => (HAW.out.step h).f4.str rfl (show [B0, B1][1]? = some B1 from rfl)
  go_upto_region 7 with fail
  clear p1 p2 p3 p4 p5
  refine wp_region_held_drew (S := (fun w' => Below w5.heap.size w5 w')) (by kernel_rfl) ((Below.refl w5.heap.size w5).drew) (fun hHeld => ?_)
  refine wpAnyH_take (i := 1) (oi := ?o1) (v := ?v1) ?hi1 (by kernel_rfl) (by kernel_rfl) (by kernel_rfl) ?hq1 ?hy1 (by assumption) ?hr1
  case hi1 => (simp only [List.getElem?_toArray, List.getElem?_cons_succ, List.getElem?_cons_zero]; rfl)
  case hy1 => ((refine .inl ⟨by rfl, ?_⟩); intro w hS; go_simp; (try with_reducible rfl))
  case hq1 => exact fun _ _ _ h => h
  (simp only [Act.put, List.setIfInBounds_toArray, List.set_cons_zero, List.set_cons_succ])
  refine wpAnyH_take (i := 2) (oi := ?o2) (v := ?v2) ?hi2 (by kernel_rfl) (by kernel_rfl) (by kernel_rfl) ?hq2 ?hy2 (by assumption) ?hr2
  case hi2 => (simp only [List.getElem?_toArray, List.getElem?_cons_succ, List.getElem?_cons_zero]; rfl)
  case hy2 => ((refine .inl ⟨by rfl, ?_⟩); intro w hS; go_simp; (try with_reducible rfl))
  case hq2 => exact fun _ _ _ h => h
  (simp only [Act.put, List.setIfInBounds_toArray, List.set_cons_zero, List.set_cons_succ])
  refine wpAnyH_take (i := 3) (oi := ?o3) (v := ?v3) ?hi3 (by kernel_rfl) (by kernel_rfl) (by kernel_rfl) ?hq3 ?hy3 (by assumption) ?hr3
  case hi3 => (simp only [List.getElem?_toArray, List.getElem?_cons_succ, List.getElem?_cons_zero]; rfl)
  case hy3 => ((refine .inl ⟨by rfl, ?_⟩); intro w hS; have q := HP5.out _ hS; go_simp; (try with_reducible rfl))
  case hq3 => exact fun _ _ _ h => h
  (simp only [Act.put, List.setIfInBounds_toArray, List.set_cons_zero, List.set_cons_succ])
  refine wpAnyH_ready (rs := [0]) (by kernel_rfl) (by simp) ?_
  refine AllReadyH.cons rfl (fun K hK => ?_) AllReadyH.nil
  go_simp
  go_wp2_with ((refine (CR7.out _).mono ?_; rintro e w60 ⟨rfl, hb60⟩))
  refine hK.out _ _ (hHeld.trans (hb60.mono hHeld.size)) (fun hHeld1 => ?_)
  clear hK K
  (try simp only [Act.put, List.setIfInBounds_toArray, List.set_cons_zero, List.set_cons_succ])
  clear hHeld; have hHeld := hHeld1; clear hHeld1
  refine wpAnyH_take (i := 4) (oi := ?o4) (v := ?v4) ?hi4 (by kernel_rfl) (by kernel_rfl) (by kernel_rfl) ?hq4 ?hy4 (by assumption) ?hr4
  case hi4 => (simp only [List.getElem?_toArray, List.getElem?_cons_succ, List.getElem?_cons_zero]; rfl)
  case hy4 => ((refine .inl ⟨by rfl, ?_⟩); intro w hS; go_simp; (try (rw [if_neg (by (try simp only [ByteArray.size_append]); (try simp); omega)])); (try with_reducible rfl))
  case hq4 => exact fun _ _ _ h => h
  (simp only [Act.put, List.setIfInBounds_toArray, List.set_cons_zero, List.set_cons_succ])
  refine wpAnyH_ready (rs := [5]) (by kernel_rfl) (by simp) ?_
  refine AllReadyH.cons rfl (fun K hK => ?_) AllReadyH.nil
  go_simp
  go_wp2_with ((refine (CR18.out _).mono ?_; rintro e w65 ⟨rfl, hb65⟩))
  refine hK.out _ _ (hHeld.trans (hb65.mono hHeld.size)) (fun hHeld1 => ?_)
  clear hK K
  (try simp only [Act.put, List.setIfInBounds_toArray, List.set_cons_zero, List.set_cons_succ])
  clear hHeld; have hHeld := hHeld1; clear hHeld1
  refine wpAnyH_take (i := 6) (oi := ?o5) (v := ?v5) ?hi5 (by kernel_rfl) (by kernel_rfl) (by kernel_rfl) ?hq5 ?hy5 (by assumption) ?hr5
  case hi5 => (simp only [List.getElem?_toArray, List.getElem?_cons_succ, List.getElem?_cons_zero]; rfl)
  case hy5 => ((refine .inl ⟨by rfl, ?_⟩); intro w hS; go_simp; (try (rw [if_neg (by (try simp only [ByteArray.size_append]); (try simp); omega)])); (try with_reducible rfl))
  case hq5 => exact fun _ _ _ h => h
  (simp only [Act.put, List.setIfInBounds_toArray, List.set_cons_zero, List.set_cons_succ])
  refine wpAnyH_take (i := 7) (oi := ?o6) (v := ?v6) ?hi6 (by kernel_rfl) (by kernel_rfl) (by kernel_rfl) ?hq6 ?hy6 (by assumption) ?hr6
  case hi6 => (simp only [List.getElem?_toArray, List.getElem?_cons_succ, List.getElem?_cons_zero]; rfl)
  case hy6 => ((refine .inl ⟨by rfl, ?_⟩); intro w hS; go_simp; (try with_reducible rfl))
  case hq6 => exact fun _ _ _ h => h
  (simp only [Act.put, List.setIfInBounds_toArray, List.set_cons_zero, List.set_cons_succ])
  refine wpAnyH_done (by kernel_rfl) ?_ _
  rw [← HKK.out]
  have HAW7 := Lib.hid (HAW.out.step hHeld)
  have HB7 := Lib.hid (HB6.out.trans (hHeld.mono HB6.out.size))
  clear hHeld HAW HB6 HP5 CR7 CR18 HKK
  have q0 := HAW7.out.f4.str rfl (show [B0, B1][0]? = some B0 from rfl)
  rw [Nat.add_zero] at q0
  have hi8 : Below w65.heap.size w65 (w65.alloc (.cells #[.string ⟨#[]⟩, .string KK] 9)) := (Below.refl _ _).alloc (Nat.le_refl _) _
  have HAW8 := Lib.hid (HAW7.out.step hi8)
  have HB8 := Lib.hid (HB7.out.trans (hi8.mono HB7.out.size))
  have q8 := HAW8.out.f4.str rfl (show [B0, B1][0]? = some B0 from rfl)
  rw [Nat.add_zero] at q8
  have CW1 := Lib.hid (CW.out (some ⟨w65.heap.size, 0, none⟩) _ (slAt_lit (cs := [.string ⟨#[]⟩, .string KK]) (RowAt.new w65 9 #[.string ⟨#[]⟩, .string KK]) (by simp)))
  clear hi8 q0 CW HAW7 HB7
  go_wp2_with fail
  refine CW1.out.mono ?_
  rintro e w9 ⟨hb9, A9, c9, rfl, hE9⟩
  have HAW9 := Lib.hid (HAW8.out.step hb9)
  have HB9 := Lib.hid (HB8.out.trans (hb9.mono HB8.out.size))
  have HE9 := Lib.hid hE9
  clear hb9 hE9 HAW8 HB8 CW1 q8
  go_wp2_with fail
  refine (CI.out _).mono ?_
  rintro e w10 ⟨rfl, hb10⟩
  have hn10 : Below w9.heap.size w9 (w10.alloc (.cells #[.string ⟨#[83, 80]⟩, .int .i64 1, .string ⟨#[190, 239, 2]⟩] 41)) := hb10.alloc hb10.size _
  have HAW10 := Lib.hid (HAW9.out.step hn10)
  have HB10 := Lib.hid (HB9.out.trans (hn10.mono HB9.out.size))
  have HE10 := Lib.hid (HE9.out.all hn10)
  have HR10 := Lib.hid (RowAt.new w10 41 #[.string ⟨#[83, 80]⟩, .int .i64 1, .string ⟨#[190, 239, 2]⟩])
  obtain ⟨g10, hg10⟩ : ∃ g, w10.heap.size = g := ⟨_, rfl⟩
  rw [hg10] at HR10
  clear hb10 hn10 HAW9 HB9 HE9 CI
  go_wp2_with fail
  generalize w10.alloc (.cells #[.string ⟨#[83, 80]⟩, .int .i64 1, .string ⟨#[190, 239, 2]⟩] 41) = wa at *
  refine (CF.out _).mono ?_
  rintro e w11 ⟨rfl, hb11⟩
  have hn11 : Below wa.heap.size wa (w11.alloc (.cells #[.string ⟨#[69, 82]⟩, .int .i64 1, .string ⟨#[2, 1, 1, 1, 73, 68, 100, 115]⟩] 41)) := hb11.alloc hb11.size _
  have HAW11 := Lib.hid (HAW10.out.step hn11)
  have HB11 := Lib.hid (HB10.out.trans (hn11.mono HB10.out.size))
  have HE11 := Lib.hid (HE10.out.all hn11)
  have HR11 := Lib.hid (HR10.out.below hn11 HR10.out.lt)
  have HQ11 := Lib.hid (RowAt.new w11 41 #[.string ⟨#[69, 82]⟩, .int .i64 1, .string ⟨#[2, 1, 1, 1, 73, 68, 100, 115]⟩])
  obtain ⟨g11, hg11⟩ : ∃ g, w11.heap.size = g := ⟨_, rfl⟩
  rw [hg11] at HQ11
  clear hb11 hn11 HAW10 HB10 HE10 HR10 CF hg10
  go_wp2_with fail
  generalize w11.alloc (.cells #[.string ⟨#[69, 82]⟩, .int .i64 1, .string ⟨#[2, 1, 1, 1, 73, 68, 100, 115]⟩] 41) = wb at *
  refine (CN.out _).mono ?_
  rintro e _ ⟨rfl, rfl⟩
  clear hg11 CN
  go_wp2_with fail
  refine (example_any _).mono ?_
  rintro e w12 ⟨hb12, Ay, cy, rfl, _, hEy⟩
  have HAW12 := Lib.hid (HAW11.out.step hb12)
  have HB12 := Lib.hid (HB11.out.trans (hb12.mono HB11.out.size))
  have HR12 := Lib.hid (HR11.out.below hb12 HR11.out.lt)
  have HQ12 := Lib.hid (HQ11.out.below hb12 HQ11.out.lt)
  have CM1 := Lib.hid (CM.out A9 Ay c9 cy w12 (HE11.out.all hb12) hEy)
  rw [show exL.length = 3 from rfl] at CM1
  clear hb12 hEy HAW11 HB11 HR11 HQ11 HE11 CM
  go_wp2_with fail
  refine CM1.out.mono ?_
  rintro e w13 ⟨rfl, hb13⟩
  have HAW13 := Lib.hid (HAW12.out.step hb13)
  have HB13 := Lib.hid (HB12.out.trans (hb13.mono HB12.out.size))
  have HR13 := Lib.hid (HR12.out.below hb13 HR12.out.lt)
  have HQ13 := Lib.hid (HQ12.out.below hb13 HQ12.out.lt)
  have CL1 := Lib.hid (CL.out (some ⟨b2, o2, none⟩) c2 hs w13 HAW13.out.f2 HAW13.out.f3)
  clear hb13 HAW12 HB12 HR12 HQ12 CM1 CL
  go_wp2_with fail
  refine CL1.out.mono ?_
  rintro e w14 ⟨hb14, A14, c14, rfl, h14⟩
  have hn14 : Below w14.heap.size w14 (w14.alloc (.cells #[.int .i64 128, .int .i64 200] 3)) := (Below.refl _ _).alloc (Nat.le_refl _) _
  have hn15 : Below w13.heap.size w13 (w14.alloc (.cells #[.int .i64 128, .int .i64 200] 3)) := hb14.alloc hb14.size _
  have HB14 := Lib.hid (HB13.out.trans (hn15.mono HB13.out.size))
  have HR14 := Lib.hid (HR13.out.below hn15 HR13.out.lt)
  have HQ14 := Lib.hid (HQ13.out.below hn15 HQ13.out.lt)
  have CQ1 := Lib.hid (CQ.out A14 (some ⟨w14.heap.size, 0, none⟩) c14 2 _ ((h14.below hn14).mono hn14.size) (slAt_lit (cs := [.int .i64 128, .int .i64 200]) (RowAt.new w14 3 #[.int .i64 128, .int .i64 200]) (by simp)))
  rw [show [(128 : Int), 200].length = 2 from rfl] at CQ1
  clear hb14 h14 hn14 hn15 HAW13 HB13 HR13 HQ13 CL1 CQ
  go_wp2_with fail
  refine CQ1.out.mono ?_
  rintro e w15 ⟨rfl, hb15⟩
  have HB15 := Lib.hid (HB14.out.trans (hb15.mono HB14.out.size))
  have HR15 := Lib.hid (HR14.out.below hb15 HR14.out.lt)
  have HQ15 := Lib.hid (HQ14.out.below hb15 HQ14.out.lt)
  clear hb15 HB14 HR14 HQ14 CQ1
  go_wp2_with fail
  refine (example_any _).mono ?_
  rintro e w16 ⟨hb16, Az, cz, rfl, _, hEz⟩
  have HB16 := Lib.hid (HB15.out.trans (hb16.mono HB15.out.size))
  have HR16 := Lib.hid (HR15.out.below hb16 HR15.out.lt)
  have HQ16 := Lib.hid (HQ15.out.below hb16 HQ15.out.lt)
  have CS1 := Lib.hid (CS.out Az cz w16 hEz)
  clear hb16 hEz HB15 HR15 HQ15 CS
  go_wp2_with fail
  refine CS1.out.mono ?_
  rintro e w17 ⟨rfl, hb17⟩
  have HB17 := Lib.hid (HB16.out.trans (hb17.mono HB16.out.size))
  have r1 := (HR16.out.below hb17 HR16.out.lt).cell
  have r2 := (HQ16.out.below hb17 HQ16.out.lt).cell
  have hn17 : Below w17.heap.size w17 (w17.alloc (.cells #[.string ⟨#[69, 82]⟩, .int .i64 1, .string ⟨#[2, 1, 1, 1, 73, 68, 100, 115]⟩] 41)) := (Below.refl _ _).alloc (Nat.le_refl _) _
  have HB18 := Lib.hid (HB17.out.trans (hn17.mono HB17.out.size))
  have CR1 := Lib.hid (CRf.out (some ⟨w17.heap.size, 0, none⟩) _ (enAt_lit (cs := [.string ⟨#[69, 82]⟩, .int .i64 1, .string ⟨#[2, 1, 1, 1, 73, 68, 100, 115]⟩]) (RowAt.new w17 41 #[.string ⟨#[69, 82]⟩, .int .i64 1, .string ⟨#[2, 1, 1, 1, 73, 68, 100, 115]⟩]) rfl (by simp)))
  clear hb17 hn17 HB16 HR16 HQ16 CS1 CRf HB17
  go_wp2_with fail
  refine CR1.out.mono ?_
  rintro e w18 ⟨hb18, A18, c18, rfl, h18⟩
  have hn18 : Below w18.heap.size w18 (w18.alloc (.cells #[.string ⟨#[73, 68]⟩] 9)) := (Below.refl _ _).alloc (Nat.le_refl _) _
  have HB19 := Lib.hid ((HB18.out.trans (hb18.mono HB18.out.size)).alloc (HB18.out.trans (hb18.mono HB18.out.size)).size (.cells #[.string ⟨#[73, 68]⟩] 9))
  have CQ2 := Lib.hid (CQs.out A18 (some ⟨w18.heap.size, 0, none⟩) c18 1 _ ((h18.below hn18).mono hn18.size) (slAt_lit (cs := [.string ⟨#[73, 68]⟩]) (RowAt.new w18 9 #[.string ⟨#[73, 68]⟩]) (by simp)))
  rw [show ([⟨#[73, 68]⟩] : List ByteArray).length = 1 from rfl] at CQ2
  clear hb18 h18 hn18 HB18 CR1 CQs r1 r2
  go_wp2_with fail
  refine CQ2.out.mono ?_
  rintro e w19 ⟨rfl, hb19⟩
  have HB20 := Lib.hid (HB19.out.trans (hb19.mono HB19.out.size))
  clear hb19 CQ2 HB19
  go_wp2_with fail
  go_ret
  exact ⟨rfl, HB20.out⟩
end Go.Proofs.Ytnomodbcpndocaa
