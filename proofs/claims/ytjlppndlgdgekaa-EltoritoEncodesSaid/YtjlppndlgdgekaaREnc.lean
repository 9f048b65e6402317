/-
  The reference's image.
-/
import Derived.Test.YtjlppndlgdgekaaImg
import Derived.Test.YtjlppndlgdgekaaHeld
import Derived.Deep.Cut
import Derived.Deep.RegionWith
namespace Go.Proofs.Ytjlppndlgdgekaa
open Go.RowKit
set_option linter.unusedVariables false

set_option maxHeartbeats 1000000 in
theorem rep_any (b : UInt8) (n : Nat) (w : World) (hn : n ≤ 100000) :
    Calls Try.prog 30 #[.int .u8 (b.toNat : Int), .int .i64 (n : Int)] w fun e w' => e = .returned (.string ⟨(List.replicate n b).toArray⟩) ∧ Below w.heap.size w w' := by
  have hi : (Try.prog.info? 5).map (fun i => (i.zero, i.size, i.bytes)) = some (some (.int .u8 0), 1, 1) := by kernel_rfl
  go_enter Try.func30, Try.ntmps30
  go_wp2_with fail
  go_loopw [5, 6] (fun v i wr => ∃ k : Nat, k ≤ n ∧ i = .int .i64 k ∧ wr.ownsRow w.heap.size 5 1 v k ((List.replicate k b).map byteV) ∧ Below w.heap.size w wr) (fun _ i _ => n - (intOf i).toNat)
  case atStart => exact ⟨0, by omega, rfl, World.ownsRow_made _ _ _ (Nat.le_refl _) (by decide) rfl, (Below.refl _ _).alloc (Nat.le_refl _) _⟩
  case round =>
    obtain ⟨k, hk, rfl, hown, hb⟩ := hrel
    by_cases hlt : k < n
    · have hlt' : (k : Int) < (n : Int) := by omega
      go_wp2_with (at_builtin; refine wpList_app1 hown hi Try.underlying35 rfl (by unfold maxLen; omega) (by omega) hb.size rfl rfl rfl (by rfl) (by rfl) ?_; intro v1 w2 hown2 hb2 _)
      go_roundw
      case rel => exact ⟨k + 1, by omega, by go_num, by rw [List.replicate_succ', List.map_append]; exact hown2, hb.trans hb2⟩
      case measure => simp [intOf]; omega
    · obtain rfl : k = n := by omega
      have hge : ¬ (k : Int) < (k : Int) := by omega
      have hcv := own_string (P := Try.prog) wr 35 9 5 Try.underlying35 Try.underlying5 Try.underlying9 hown
      go_wp2_with fail
      go_ret
      exact ⟨rfl, hb⟩

theorem rzeros_any (n : Nat) (w : World) (h : n ≤ 4096) : Calls Try.prog 30 #[.int .u8 0, .int .i64 (n : Int)] w fun e w' => e = .returned (.string ⟨(zs n).toArray⟩) ∧ Below w.heap.size w w' := rep_any 0 n w (by omega)
theorem leB1 (n : Int) (b : UInt8) (h : n = (b.toNat : Int)) : leB n 1 = [b] := by
  subst h
  show [bt _ 0] = [b]
  unfold bt
  simp
theorem firstB_toNat (b : Bool) : ((firstB b).toNat : Int) = if b then 136 else 0 := by cases b <;> rfl

set_option maxRecDepth 100000 in
set_option maxHeartbeats 4000000 in
theorem rimage_any (x : Img) (w : World) (h : imgOk x = true) : Calls Try.prog 32 #[imV x] w fun e w' => e = .returned (.string ⟨(imgL x).toArray⟩) ∧ Below w.heap.size w w' := by
  obtain ⟨p, m, s, c, l, b⟩ := x
  obtain ⟨_, ⟨m0, m1⟩, ⟨s0, s1⟩, ⟨c0, c1⟩, ⟨l0, l1⟩⟩ := imgOk_parts h
  have C2 := Lib.hid (fun w => rnumber_any s 2 w (by omega))
  have C3 := Lib.hid (fun w => rnumber_any c 2 w (by omega))
  have C4 := Lib.hid (fun w => rnumber_any l 4 w (by omega))
  have CZ := Lib.hid (fun w => rzeros_any 20 w (by omega))
  rw [str2 s0 s1] at C2
  rw [str2 c0 c1] at C3
  rw [str4 l0 l1] at C4
  obtain ⟨mb, hmb, -⟩ := byte_ex m0 (show m ≤ 255 by omega)
  have HF : Hid ((⟨#[firstB b, mb]⟩ : ByteArray) ++ ⟨(leB s 2).toArray⟩ ++ ⟨#[0, 0]⟩ ++ ⟨(leB c 2).toArray⟩ ++ ⟨(leB l 4).toArray⟩ ++ ⟨(zs 20).toArray⟩ = ⟨(imgL ⟨p, m, s, c, l, b⟩).toArray⟩) := Lib.hid (by
    rw [show (⟨#[firstB b, mb]⟩ : ByteArray) = ⟨[firstB b, mb].toArray⟩ from rfl, show (⟨#[0, 0]⟩ : ByteArray) = ⟨[0, 0].toArray⟩ from rfl]
    simp only [mk_append]
    unfold imgL imgP
    dsimp only
    rw [leB1 m mb hmb]
    simp)
  have z2 : (⟨(leB s 2).toArray⟩ : ByteArray).size ≤ 100 := by show (leB s 2).length ≤ 100; rw [leB_length]; omega
  have z3 : (⟨(leB c 2).toArray⟩ : ByteArray).size ≤ 100 := by show (leB c 2).length ≤ 100; rw [leB_length]; omega
  have z4 : (⟨(leB l 4).toArray⟩ : ByteArray).size ≤ 100 := by show (leB l 4).length ≤ 100; rw [leB_length]; omega
  have z5 : (⟨(zs 20).toArray⟩ : ByteArray).size ≤ 100 := by show (zs 20).length ≤ 100; rw [zs_length]; omega
  generalize (⟨(leB s 2).toArray⟩ : ByteArray) = S2 at *
  generalize (⟨(leB c 2).toArray⟩ : ByteArray) = S3 at *
  generalize (⟨(leB l 4).toArray⟩ : ByteArray) = S4 at *
  generalize (⟨(zs 20).toArray⟩ : ByteArray) = Z at *
  have hbw := byte_wrap mb
  subst hmb
  rw [imV]
  dsimp only
  rw [← HF.out]
  clear h HF
  cases b with
  | false =>
    go_enter Try.func32, Try.ntmps32
    go_wp2_with fail
    go_upto_region 4 with fail
    have h1 := (St.start w).new rfl #[.int .i64 p, .int .i64 (mb.toNat : Int), .int .i64 s, .int .i64 c, .int .i64 l, .bool false] 34
    generalize w.alloc (.cells #[.int .i64 p, .int .i64 (mb.toNat : Int), .int .i64 s, .int .i64 c, .int .i64 l, .bool false] 34) = W1 at h1 ⊢
    refine wp_region_held_drew (S := (fun w' => St w w' [(w.heap.size, 34, #[.int .i64 p, .int .i64 (mb.toNat : Int), .int .i64 s, .int .i64 c, .int .i64 l, .bool false])])) (by kernel_rfl) (h1.drew) (fun hHeld => ?_)
    refine wpAnyH_take (i := 0) (oi := ?o1) (v := ?v1) ?hi1 (by kernel_rfl) (by kernel_rfl) (by kernel_rfl) ?hq1 ?hy1 (by assumption) ?hr1
    case hi1 => (simp only [List.getElem?_toArray, List.getElem?_cons_zero]; rfl)
    case hy1 => ((refine .inl ⟨by rfl, ?_⟩); intro w hS; go_simp; (try with_reducible rfl))
    case hq1 => exact fun _ _ _ h => h
    (simp only [Act.put, List.setIfInBounds_toArray, List.set_cons_zero, List.set_cons_succ])
    refine wpAnyH_take (i := 1) (oi := ?o2) (v := ?v2) ?hi2 (by kernel_rfl) (by kernel_rfl) (by kernel_rfl) ?hq2 ?hy2 (by assumption) ?hr2
    case hi2 => (simp only [List.getElem?_toArray, List.getElem?_cons_succ, List.getElem?_cons_zero]; rfl)
    case hy2 => ((refine .inl ⟨by rfl, ?_⟩); intro w hS; go_simp; (try with_reducible rfl))
    case hq2 => exact fun _ _ _ h => h
    (simp only [Act.put, List.setIfInBounds_toArray, List.set_cons_zero, List.set_cons_succ])
    refine wpAnyH_take (i := 2) (oi := ?o3) (v := ?v3) ?hi3 (by kernel_rfl) (by kernel_rfl) (by kernel_rfl) ?hq3 ?hy3 (by assumption) ?hr3
    case hi3 => (simp only [List.getElem?_toArray, List.getElem?_cons_succ, List.getElem?_cons_zero]; rfl)
    case hy3 => ((refine .inl ⟨by rfl, ?_⟩); intro w hS; have q := (first_row hS).cell; go_simp; (try with_reducible rfl))
    case hq3 => exact fun _ _ _ h => h
    (simp only [Act.put, List.setIfInBounds_toArray, List.set_cons_zero, List.set_cons_succ])
    refine wpAnyH_take (i := 3) (oi := ?o4) (v := ?v4) ?hi4 (by kernel_rfl) (by kernel_rfl) (by kernel_rfl) ?hq4 ?hy4 (by assumption) ?hr4
    case hi4 => (simp only [List.getElem?_toArray, List.getElem?_cons_succ, List.getElem?_cons_zero]; rfl)
    case hy4 => ((refine .inl ⟨by rfl, ?_⟩); intro w hS; go_simp; (try with_reducible rfl))
    case hq4 => exact fun _ _ _ h => h
    (simp only [Act.put, List.setIfInBounds_toArray, List.set_cons_zero, List.set_cons_succ])
    refine wpAnyH_take (i := 6) (oi := ?o5) (v := ?v5) ?hi5 (by kernel_rfl) (by kernel_rfl) (by kernel_rfl) ?hq5 ?hy5 (by assumption) ?hr5
    case hi5 => (simp only [List.getElem?_toArray, List.getElem?_cons_succ, List.getElem?_cons_zero]; rfl)
    case hy5 => ((refine .inl ⟨by rfl, ?_⟩); intro w hS; go_simp; (try with_reducible rfl))
    case hq5 => exact fun _ _ _ h => h
    (simp only [Act.put, List.setIfInBounds_toArray, List.set_cons_zero, List.set_cons_succ])
    refine wpAnyH_take (i := 7) (oi := ?o6) (v := ?v6) ?hi6 (by kernel_rfl) (by kernel_rfl) (by kernel_rfl) ?hq6 ?hy6 (by assumption) ?hr6
    case hi6 => (simp only [List.getElem?_toArray, List.getElem?_cons_succ, List.getElem?_cons_zero]; rfl)
    case hy6 => ((refine .inl ⟨by rfl, ?_⟩); intro w hS; have q := (first_row hS).cell; go_simp; (try with_reducible rfl))
    case hq6 => exact fun _ _ _ h => h
    (simp only [Act.put, List.setIfInBounds_toArray, List.set_cons_zero, List.set_cons_succ])
    refine wpAnyH_take (i := 11) (oi := ?o7) (v := ?v7) ?hi7 (by kernel_rfl) (by kernel_rfl) (by kernel_rfl) ?hq7 ?hy7 (by assumption) ?hr7
    case hi7 => (simp only [List.getElem?_toArray, List.getElem?_cons_succ, List.getElem?_cons_zero]; rfl)
    case hy7 => ((refine .inl ⟨by rfl, ?_⟩); intro w hS; go_simp; (try with_reducible rfl))
    case hq7 => exact fun _ _ _ h => h
    (simp only [Act.put, List.setIfInBounds_toArray, List.set_cons_zero, List.set_cons_succ])
    refine wpAnyH_take (i := 12) (oi := ?o8) (v := ?v8) ?hi8 (by kernel_rfl) (by kernel_rfl) (by kernel_rfl) ?hq8 ?hy8 (by assumption) ?hr8
    case hi8 => (simp only [List.getElem?_toArray, List.getElem?_cons_succ, List.getElem?_cons_zero]; rfl)
    case hy8 => ((refine .inl ⟨by rfl, ?_⟩); intro w hS; have q := (first_row hS).cell; go_simp; (try with_reducible rfl))
    case hq8 => exact fun _ _ _ h => h
    (simp only [Act.put, List.setIfInBounds_toArray, List.set_cons_zero, List.set_cons_succ])
    refine wpAnyH_take (i := 15) (oi := ?o9) (v := ?v9) ?hi9 (by kernel_rfl) (by kernel_rfl) (by kernel_rfl) ?hq9 ?hy9 (by assumption) ?hr9
    case hi9 => (simp only [List.getElem?_toArray, List.getElem?_cons_succ, List.getElem?_cons_zero]; rfl)
    case hy9 => ((refine .inl ⟨by rfl, ?_⟩); intro w hS; go_simp; (try with_reducible rfl))
    case hq9 => exact fun _ _ _ h => h
    (simp only [Act.put, List.setIfInBounds_toArray, List.set_cons_zero, List.set_cons_succ])
    refine wpAnyH_take (i := 16) (oi := ?o10) (v := ?v10) ?hi10 (by kernel_rfl) (by kernel_rfl) (by kernel_rfl) ?hq10 ?hy10 (by assumption) ?hr10
    case hi10 => (simp only [List.getElem?_toArray, List.getElem?_cons_succ, List.getElem?_cons_zero]; rfl)
    case hy10 => ((refine .inl ⟨by rfl, ?_⟩); intro w hS; have q := (first_row hS).cell; go_simp; (try with_reducible rfl))
    case hq10 => exact fun _ _ _ h => h
    (simp only [Act.put, List.setIfInBounds_toArray, List.set_cons_zero, List.set_cons_succ])
    refine wpAnyH_ready (rs := [4, 8]) (by kernel_rfl) (by simp) ?_
    refine AllReadyH.cons rfl (fun K hK => ?_) (AllReadyH.cons rfl (fun K hK => ?_) AllReadyH.nil)
    · skip
      go_simp
      refine hK.out _ _ (St.other hHeld _) (fun hHeld1 => ?_)
      clear hK K
      (try simp only [Act.put, List.setIfInBounds_toArray, List.set_cons_zero, List.set_cons_succ])
      refine wpAnyH_row (St.swap (hHeld.new (g := W1.heap.size) rfl #[.int .u8 0, .int .u8 (mb.toNat : Int)] 5)) (fun hHeld2 => ?_)
      clear hHeld hHeld1; have hHeld := hHeld2; clear hHeld2
      refine wpAnyH_take (i := 5) (oi := ?o11) (v := ?v11) ?hi11 (by kernel_rfl) (by kernel_rfl) (by kernel_rfl) ?hq11 ?hy11 (by assumption) ?hr11
      case hi11 => (simp only [List.getElem?_toArray, List.getElem?_cons_succ, List.getElem?_cons_zero]; rfl)
      case hy11 => ((refine .inl ⟨by rfl, ?_⟩); intro w hS; have q := run_bytes_row (cap := 2) Try.underlying35 Try.underlying5 Try.underlying9 [0, mb] (hS.at (i := 1) rfl) rfl 2 rfl; go_simp; (try with_reducible rfl))
      case hq11 => exact fun _ _ _ h => h
      (simp only [Act.put, List.setIfInBounds_toArray, List.set_cons_zero, List.set_cons_succ])
      refine wpAnyH_ready (rs := [8]) (by kernel_rfl) (by simp) ?_
      refine AllReadyH.cons rfl (fun K hK => ?_) AllReadyH.nil
      go_simp
      go_wp2_with ((refine (C2.out _).mono ?_; rintro e w8 ⟨rfl, hb8⟩))
      refine hK.out _ _ (St.call hb8 hHeld) (fun hHeld1 => ?_)
      clear hK K
      (try simp only [Act.put, List.setIfInBounds_toArray, List.set_cons_zero, List.set_cons_succ])
      clear hHeld; have hHeld := hHeld1; clear hHeld1
      refine wpAnyH_take (i := 9) (oi := ?o12) (v := ?v12) ?hi12 (by kernel_rfl) (by kernel_rfl) (by kernel_rfl) ?hq12 ?hy12 (by assumption) ?hr12
      case hi12 => (simp only [List.getElem?_toArray, List.getElem?_cons_succ, List.getElem?_cons_zero]; rfl)
      case hy12 => ((refine .inl ⟨by rfl, ?_⟩); intro w hS; go_simp; (try (rw [if_neg (by (try simp only [ByteArray.size_append]); (try simp); omega)])); (try with_reducible rfl))
      case hq12 => exact fun _ _ _ h => h
      (simp only [Act.put, List.setIfInBounds_toArray, List.set_cons_zero, List.set_cons_succ])
      refine wpAnyH_take (i := 10) (oi := ?o13) (v := ?v13) ?hi13 (by kernel_rfl) (by kernel_rfl) (by kernel_rfl) ?hq13 ?hy13 (by assumption) ?hr13
      case hi13 => (simp only [List.getElem?_toArray, List.getElem?_cons_succ, List.getElem?_cons_zero]; rfl)
      case hy13 => ((refine .inl ⟨by rfl, ?_⟩); intro w hS; go_simp; (try (rw [if_neg (by (try simp only [ByteArray.size_append]); (try simp); omega)])); (try with_reducible rfl))
      case hq13 => exact fun _ _ _ h => h
      (simp only [Act.put, List.setIfInBounds_toArray, List.set_cons_zero, List.set_cons_succ])
      refine wpAnyH_ready (rs := [13]) (by kernel_rfl) (by simp) ?_
      refine AllReadyH.cons rfl (fun K hK => ?_) AllReadyH.nil
      go_simp
      go_wp2_with ((refine (C3.out _).mono ?_; rintro e w13 ⟨rfl, hb13⟩))
      refine hK.out _ _ (St.call hb13 hHeld) (fun hHeld1 => ?_)
      clear hK K
      (try simp only [Act.put, List.setIfInBounds_toArray, List.set_cons_zero, List.set_cons_succ])
      clear hHeld; have hHeld := hHeld1; clear hHeld1
      refine wpAnyH_take (i := 14) (oi := ?o14) (v := ?v14) ?hi14 (by kernel_rfl) (by kernel_rfl) (by kernel_rfl) ?hq14 ?hy14 (by assumption) ?hr14
      case hi14 => (simp only [List.getElem?_toArray, List.getElem?_cons_succ, List.getElem?_cons_zero]; rfl)
      case hy14 => ((refine .inl ⟨by rfl, ?_⟩); intro w hS; go_simp; (try (rw [if_neg (by (try simp only [ByteArray.size_append]); (try simp); omega)])); (try with_reducible rfl))
      case hq14 => exact fun _ _ _ h => h
      (simp only [Act.put, List.setIfInBounds_toArray, List.set_cons_zero, List.set_cons_succ])
      refine wpAnyH_ready (rs := [17]) (by kernel_rfl) (by simp) ?_
      refine AllReadyH.cons rfl (fun K hK => ?_) AllReadyH.nil
      go_simp
      go_wp2_with ((refine (C4.out _).mono ?_; rintro e w17 ⟨rfl, hb17⟩))
      refine hK.out _ _ (St.call hb17 hHeld) (fun hHeld1 => ?_)
      clear hK K
      (try simp only [Act.put, List.setIfInBounds_toArray, List.set_cons_zero, List.set_cons_succ])
      clear hHeld; have hHeld := hHeld1; clear hHeld1
      refine wpAnyH_take (i := 18) (oi := ?o15) (v := ?v15) ?hi15 (by kernel_rfl) (by kernel_rfl) (by kernel_rfl) ?hq15 ?hy15 (by assumption) ?hr15
      case hi15 => (simp only [List.getElem?_toArray, List.getElem?_cons_succ, List.getElem?_cons_zero]; rfl)
      case hy15 => ((refine .inl ⟨by rfl, ?_⟩); intro w hS; go_simp; (try (rw [if_neg (by (try simp only [ByteArray.size_append]); (try simp); omega)])); (try with_reducible rfl))
      case hq15 => exact fun _ _ _ h => h
      (simp only [Act.put, List.setIfInBounds_toArray, List.set_cons_zero, List.set_cons_succ])
      refine wpAnyH_ready (rs := [19]) (by kernel_rfl) (by simp) ?_
      refine AllReadyH.cons rfl (fun K hK => ?_) AllReadyH.nil
      go_simp
      go_wp2_with ((refine (CZ.out _).mono ?_; rintro e w19 ⟨rfl, hb19⟩))
      refine hK.out _ _ (St.call hb19 hHeld) (fun hHeld1 => ?_)
      clear hK K
      (try simp only [Act.put, List.setIfInBounds_toArray, List.set_cons_zero, List.set_cons_succ])
      clear hHeld; have hHeld := hHeld1; clear hHeld1
      refine wpAnyH_take (i := 20) (oi := ?o16) (v := ?v16) ?hi16 (by kernel_rfl) (by kernel_rfl) (by kernel_rfl) ?hq16 ?hy16 (by assumption) ?hr16
      case hi16 => (simp only [List.getElem?_toArray, List.getElem?_cons_succ, List.getElem?_cons_zero]; rfl)
      case hy16 => ((refine .inl ⟨by rfl, ?_⟩); intro w hS; go_simp; (try (rw [if_neg (by (try simp only [ByteArray.size_append]); (try simp); omega)])); (try with_reducible rfl))
      case hq16 => exact fun _ _ _ h => h
      (simp only [Act.put, List.setIfInBounds_toArray, List.set_cons_zero, List.set_cons_succ])
      refine wpAnyH_take (i := 21) (oi := ?o17) (v := ?v17) ?hi17 (by kernel_rfl) (by kernel_rfl) (by kernel_rfl) ?hq17 ?hy17 (by assumption) ?hr17
      case hi17 => (simp only [List.getElem?_toArray, List.getElem?_cons_succ, List.getElem?_cons_zero]; rfl)
      case hy17 => ((refine .inl ⟨by rfl, ?_⟩); intro w hS; go_simp; (try with_reducible rfl))
      case hq17 => exact fun _ _ _ h => h
      (simp only [Act.put, List.setIfInBounds_toArray, List.set_cons_zero, List.set_cons_succ])
      refine wpAnyH_done (by kernel_rfl) ?_ _
      go_wp2_with fail
      go_ret
      exact ⟨rfl, hHeld.bel⟩
    · skip
      go_simp
      go_wp2_with ((refine (C2.out _).mono ?_; rintro e w8 ⟨rfl, hb8⟩))
      refine hK.out _ _ (St.call hb8 hHeld) (fun hHeld1 => ?_)
      clear hK K
      (try simp only [Act.put, List.setIfInBounds_toArray, List.set_cons_zero, List.set_cons_succ])
      clear hHeld; have hHeld := hHeld1; clear hHeld1
      refine wpAnyH_ready (rs := [4, 13]) (by kernel_rfl) (by simp) ?_
      refine AllReadyH.cons rfl (fun K hK => ?_) (AllReadyH.cons rfl (fun K hK => ?_) AllReadyH.nil)
      · skip
        go_simp
        refine hK.out _ _ (St.other hHeld _) (fun hHeld1 => ?_)
        clear hK K
        (try simp only [Act.put, List.setIfInBounds_toArray, List.set_cons_zero, List.set_cons_succ])
        refine wpAnyH_row (St.swap (hHeld.new (g := w8.heap.size) rfl #[.int .u8 0, .int .u8 (mb.toNat : Int)] 5)) (fun hHeld2 => ?_)
        clear hHeld hHeld1; have hHeld := hHeld2; clear hHeld2
        refine wpAnyH_take (i := 5) (oi := ?o18) (v := ?v18) ?hi18 (by kernel_rfl) (by kernel_rfl) (by kernel_rfl) ?hq18 ?hy18 (by assumption) ?hr18
        case hi18 => (simp only [List.getElem?_toArray, List.getElem?_cons_succ, List.getElem?_cons_zero]; rfl)
        case hy18 => ((refine .inl ⟨by rfl, ?_⟩); intro w hS; have q := run_bytes_row (cap := 2) Try.underlying35 Try.underlying5 Try.underlying9 [0, mb] (hS.at (i := 1) rfl) rfl 2 rfl; go_simp; (try with_reducible rfl))
        case hq18 => exact fun _ _ _ h => h
        (simp only [Act.put, List.setIfInBounds_toArray, List.set_cons_zero, List.set_cons_succ])
        refine wpAnyH_take (i := 9) (oi := ?o19) (v := ?v19) ?hi19 (by kernel_rfl) (by kernel_rfl) (by kernel_rfl) ?hq19 ?hy19 (by assumption) ?hr19
        case hi19 => (simp only [List.getElem?_toArray, List.getElem?_cons_succ, List.getElem?_cons_zero]; rfl)
        case hy19 => ((refine .inl ⟨by rfl, ?_⟩); intro w hS; go_simp; (try (rw [if_neg (by (try simp only [ByteArray.size_append]); (try simp); omega)])); (try with_reducible rfl))
        case hq19 => exact fun _ _ _ h => h
        (simp only [Act.put, List.setIfInBounds_toArray, List.set_cons_zero, List.set_cons_succ])
        refine wpAnyH_take (i := 10) (oi := ?o20) (v := ?v20) ?hi20 (by kernel_rfl) (by kernel_rfl) (by kernel_rfl) ?hq20 ?hy20 (by assumption) ?hr20
        case hi20 => (simp only [List.getElem?_toArray, List.getElem?_cons_succ, List.getElem?_cons_zero]; rfl)
        case hy20 => ((refine .inl ⟨by rfl, ?_⟩); intro w hS; go_simp; (try (rw [if_neg (by (try simp only [ByteArray.size_append]); (try simp); omega)])); (try with_reducible rfl))
        case hq20 => exact fun _ _ _ h => h
        (simp only [Act.put, List.setIfInBounds_toArray, List.set_cons_zero, List.set_cons_succ])
        refine wpAnyH_ready (rs := [13]) (by kernel_rfl) (by simp) ?_
        refine AllReadyH.cons rfl (fun K hK => ?_) AllReadyH.nil
        go_simp
        go_wp2_with ((refine (C3.out _).mono ?_; rintro e w13 ⟨rfl, hb13⟩))
        refine hK.out _ _ (St.call hb13 hHeld) (fun hHeld1 => ?_)
        clear hK K
        (try simp only [Act.put, List.setIfInBounds_toArray, List.set_cons_zero, List.set_cons_succ])
        clear hHeld; have hHeld := hHeld1; clear hHeld1
        refine wpAnyH_take (i := 14) (oi := ?o21) (v := ?v21) ?hi21 (by kernel_rfl) (by kernel_rfl) (by kernel_rfl) ?hq21 ?hy21 (by assumption) ?hr21
        case hi21 => (simp only [List.getElem?_toArray, List.getElem?_cons_succ, List.getElem?_cons_zero]; rfl)
        case hy21 => ((refine .inl ⟨by rfl, ?_⟩); intro w hS; go_simp; (try (rw [if_neg (by (try simp only [ByteArray.size_append]); (try simp); omega)])); (try with_reducible rfl))
        case hq21 => exact fun _ _ _ h => h
        (simp only [Act.put, List.setIfInBounds_toArray, List.set_cons_zero, List.set_cons_succ])
        refine wpAnyH_ready (rs := [17]) (by kernel_rfl) (by simp) ?_
        refine AllReadyH.cons rfl (fun K hK => ?_) AllReadyH.nil
        go_simp
        go_wp2_with ((refine (C4.out _).mono ?_; rintro e w17 ⟨rfl, hb17⟩))
        refine hK.out _ _ (St.call hb17 hHeld) (fun hHeld1 => ?_)
        clear hK K
        (try simp only [Act.put, List.setIfInBounds_toArray, List.set_cons_zero, List.set_cons_succ])
        clear hHeld; have hHeld := hHeld1; clear hHeld1
        refine wpAnyH_take (i := 18) (oi := ?o22) (v := ?v22) ?hi22 (by kernel_rfl) (by kernel_rfl) (by kernel_rfl) ?hq22 ?hy22 (by assumption) ?hr22
        case hi22 => (simp only [List.getElem?_toArray, List.getElem?_cons_succ, List.getElem?_cons_zero]; rfl)
        case hy22 => ((refine .inl ⟨by rfl, ?_⟩); intro w hS; go_simp; (try (rw [if_neg (by (try simp only [ByteArray.size_append]); (try simp); omega)])); (try with_reducible rfl))
        case hq22 => exact fun _ _ _ h => h
        (simp only [Act.put, List.setIfInBounds_toArray, List.set_cons_zero, List.set_cons_succ])
        refine wpAnyH_ready (rs := [19]) (by kernel_rfl) (by simp) ?_
        refine AllReadyH.cons rfl (fun K hK => ?_) AllReadyH.nil
        go_simp
        go_wp2_with ((refine (CZ.out _).mono ?_; rintro e w19 ⟨rfl, hb19⟩))
        refine hK.out _ _ (St.call hb19 hHeld) (fun hHeld1 => ?_)
        clear hK K
        (try simp only [Act.put, List.setIfInBounds_toArray, List.set_cons_zero, List.set_cons_succ])
        clear hHeld; have hHeld := hHeld1; clear hHeld1
        refine wpAnyH_take (i := 20) (oi := ?o23) (v := ?v23) ?hi23 (by kernel_rfl) (by kernel_rfl) (by kernel_rfl) ?hq23 ?hy23 (by assumption) ?hr23
        case hi23 => (simp only [List.getElem?_toArray, List.getElem?_cons_succ, List.getElem?_cons_zero]; rfl)
        case hy23 => ((refine .inl ⟨by rfl, ?_⟩); intro w hS; go_simp; (try (rw [if_neg (by (try simp only [ByteArray.size_append]); (try simp); omega)])); (try with_reducible rfl))
        case hq23 => exact fun _ _ _ h => h
        (simp only [Act.put, List.setIfInBounds_toArray, List.set_cons_zero, List.set_cons_succ])
        refine wpAnyH_take (i := 21) (oi := ?o24) (v := ?v24) ?hi24 (by kernel_rfl) (by kernel_rfl) (by kernel_rfl) ?hq24 ?hy24 (by assumption) ?hr24
        case hi24 => (simp only [List.getElem?_toArray, List.getElem?_cons_succ, List.getElem?_cons_zero]; rfl)
        case hy24 => ((refine .inl ⟨by rfl, ?_⟩); intro w hS; go_simp; (try with_reducible rfl))
        case hq24 => exact fun _ _ _ h => h
        (simp only [Act.put, List.setIfInBounds_toArray, List.set_cons_zero, List.set_cons_succ])
        refine wpAnyH_done (by kernel_rfl) ?_ _
        go_wp2_with fail
        go_ret
        exact ⟨rfl, hHeld.bel⟩
      · skip
        go_simp
        go_wp2_with ((refine (C3.out _).mono ?_; rintro e w13 ⟨rfl, hb13⟩))
        refine hK.out _ _ (St.call hb13 hHeld) (fun hHeld1 => ?_)
        clear hK K
        (try simp only [Act.put, List.setIfInBounds_toArray, List.set_cons_zero, List.set_cons_succ])
        clear hHeld; have hHeld := hHeld1; clear hHeld1
        refine wpAnyH_ready (rs := [4, 17]) (by kernel_rfl) (by simp) ?_
        refine AllReadyH.cons rfl (fun K hK => ?_) (AllReadyH.cons rfl (fun K hK => ?_) AllReadyH.nil)
        · skip
          go_simp
          refine hK.out _ _ (St.other hHeld _) (fun hHeld1 => ?_)
          clear hK K
          (try simp only [Act.put, List.setIfInBounds_toArray, List.set_cons_zero, List.set_cons_succ])
          refine wpAnyH_row (St.swap (hHeld.new (g := w13.heap.size) rfl #[.int .u8 0, .int .u8 (mb.toNat : Int)] 5)) (fun hHeld2 => ?_)
          clear hHeld hHeld1; have hHeld := hHeld2; clear hHeld2
          refine wpAnyH_take (i := 5) (oi := ?o25) (v := ?v25) ?hi25 (by kernel_rfl) (by kernel_rfl) (by kernel_rfl) ?hq25 ?hy25 (by assumption) ?hr25
          case hi25 => (simp only [List.getElem?_toArray, List.getElem?_cons_succ, List.getElem?_cons_zero]; rfl)
          case hy25 => ((refine .inl ⟨by rfl, ?_⟩); intro w hS; have q := run_bytes_row (cap := 2) Try.underlying35 Try.underlying5 Try.underlying9 [0, mb] (hS.at (i := 1) rfl) rfl 2 rfl; go_simp; (try with_reducible rfl))
          case hq25 => exact fun _ _ _ h => h
          (simp only [Act.put, List.setIfInBounds_toArray, List.set_cons_zero, List.set_cons_succ])
          refine wpAnyH_take (i := 9) (oi := ?o26) (v := ?v26) ?hi26 (by kernel_rfl) (by kernel_rfl) (by kernel_rfl) ?hq26 ?hy26 (by assumption) ?hr26
          case hi26 => (simp only [List.getElem?_toArray, List.getElem?_cons_succ, List.getElem?_cons_zero]; rfl)
          case hy26 => ((refine .inl ⟨by rfl, ?_⟩); intro w hS; go_simp; (try (rw [if_neg (by (try simp only [ByteArray.size_append]); (try simp); omega)])); (try with_reducible rfl))
          case hq26 => exact fun _ _ _ h => h
          (simp only [Act.put, List.setIfInBounds_toArray, List.set_cons_zero, List.set_cons_succ])
          refine wpAnyH_take (i := 10) (oi := ?o27) (v := ?v27) ?hi27 (by kernel_rfl) (by kernel_rfl) (by kernel_rfl) ?hq27 ?hy27 (by assumption) ?hr27
          case hi27 => (simp only [List.getElem?_toArray, List.getElem?_cons_succ, List.getElem?_cons_zero]; rfl)
          case hy27 => ((refine .inl ⟨by rfl, ?_⟩); intro w hS; go_simp; (try (rw [if_neg (by (try simp only [ByteArray.size_append]); (try simp); omega)])); (try with_reducible rfl))
          case hq27 => exact fun _ _ _ h => h
          (simp only [Act.put, List.setIfInBounds_toArray, List.set_cons_zero, List.set_cons_succ])
          refine wpAnyH_take (i := 14) (oi := ?o28) (v := ?v28) ?hi28 (by kernel_rfl) (by kernel_rfl) (by kernel_rfl) ?hq28 ?hy28 (by assumption) ?hr28
          case hi28 => (simp only [List.getElem?_toArray, List.getElem?_cons_succ, List.getElem?_cons_zero]; rfl)
          case hy28 => ((refine .inl ⟨by rfl, ?_⟩); intro w hS; go_simp; (try (rw [if_neg (by (try simp only [ByteArray.size_append]); (try simp); omega)])); (try with_reducible rfl))
          case hq28 => exact fun _ _ _ h => h
          (simp only [Act.put, List.setIfInBounds_toArray, List.set_cons_zero, List.set_cons_succ])
          refine wpAnyH_ready (rs := [17]) (by kernel_rfl) (by simp) ?_
          refine AllReadyH.cons rfl (fun K hK => ?_) AllReadyH.nil
          go_simp
          go_wp2_with ((refine (C4.out _).mono ?_; rintro e w17 ⟨rfl, hb17⟩))
          refine hK.out _ _ (St.call hb17 hHeld) (fun hHeld1 => ?_)
          clear hK K
          (try simp only [Act.put, List.setIfInBounds_toArray, List.set_cons_zero, List.set_cons_succ])
          clear hHeld; have hHeld := hHeld1; clear hHeld1
          refine wpAnyH_take (i := 18) (oi := ?o29) (v := ?v29) ?hi29 (by kernel_rfl) (by kernel_rfl) (by kernel_rfl) ?hq29 ?hy29 (by assumption) ?hr29
          case hi29 => (simp only [List.getElem?_toArray, List.getElem?_cons_succ, List.getElem?_cons_zero]; rfl)
          case hy29 => ((refine .inl ⟨by rfl, ?_⟩); intro w hS; go_simp; (try (rw [if_neg (by (try simp only [ByteArray.size_append]); (try simp); omega)])); (try with_reducible rfl))
          case hq29 => exact fun _ _ _ h => h
          (simp only [Act.put, List.setIfInBounds_toArray, List.set_cons_zero, List.set_cons_succ])
          refine wpAnyH_ready (rs := [19]) (by kernel_rfl) (by simp) ?_
          refine AllReadyH.cons rfl (fun K hK => ?_) AllReadyH.nil
          go_simp
          go_wp2_with ((refine (CZ.out _).mono ?_; rintro e w19 ⟨rfl, hb19⟩))
          refine hK.out _ _ (St.call hb19 hHeld) (fun hHeld1 => ?_)
          clear hK K
          (try simp only [Act.put, List.setIfInBounds_toArray, List.set_cons_zero, List.set_cons_succ])
          clear hHeld; have hHeld := hHeld1; clear hHeld1
          refine wpAnyH_take (i := 20) (oi := ?o30) (v := ?v30) ?hi30 (by kernel_rfl) (by kernel_rfl) (by kernel_rfl) ?hq30 ?hy30 (by assumption) ?hr30
          case hi30 => (simp only [List.getElem?_toArray, List.getElem?_cons_succ, List.getElem?_cons_zero]; rfl)
          case hy30 => ((refine .inl ⟨by rfl, ?_⟩); intro w hS; go_simp; (try (rw [if_neg (by (try simp only [ByteArray.size_append]); (try simp); omega)])); (try with_reducible rfl))
          case hq30 => exact fun _ _ _ h => h
          (simp only [Act.put, List.setIfInBounds_toArray, List.set_cons_zero, List.set_cons_succ])
          refine wpAnyH_take (i := 21) (oi := ?o31) (v := ?v31) ?hi31 (by kernel_rfl) (by kernel_rfl) (by kernel_rfl) ?hq31 ?hy31 (by assumption) ?hr31
          case hi31 => (simp only [List.getElem?_toArray, List.getElem?_cons_succ, List.getElem?_cons_zero]; rfl)
          case hy31 => ((refine .inl ⟨by rfl, ?_⟩); intro w hS; go_simp; (try with_reducible rfl))
          case hq31 => exact fun _ _ _ h => h
          (simp only [Act.put, List.setIfInBounds_toArray, List.set_cons_zero, List.set_cons_succ])
          refine wpAnyH_done (by kernel_rfl) ?_ _
          go_wp2_with fail
          go_ret
          exact ⟨rfl, hHeld.bel⟩
        · skip
          go_simp
          go_wp2_with ((refine (C4.out _).mono ?_; rintro e w17 ⟨rfl, hb17⟩))
          refine hK.out _ _ (St.call hb17 hHeld) (fun hHeld1 => ?_)
          clear hK K
          (try simp only [Act.put, List.setIfInBounds_toArray, List.set_cons_zero, List.set_cons_succ])
          clear hHeld; have hHeld := hHeld1; clear hHeld1
          refine wpAnyH_ready (rs := [4, 19]) (by kernel_rfl) (by simp) ?_
          refine AllReadyH.cons rfl (fun K hK => ?_) (AllReadyH.cons rfl (fun K hK => ?_) AllReadyH.nil)
          · skip
            go_simp
            refine hK.out _ _ (St.other hHeld _) (fun hHeld1 => ?_)
            clear hK K
            (try simp only [Act.put, List.setIfInBounds_toArray, List.set_cons_zero, List.set_cons_succ])
            refine wpAnyH_row (St.swap (hHeld.new (g := w17.heap.size) rfl #[.int .u8 0, .int .u8 (mb.toNat : Int)] 5)) (fun hHeld2 => ?_)
            clear hHeld hHeld1; have hHeld := hHeld2; clear hHeld2
            refine wpAnyH_take (i := 5) (oi := ?o32) (v := ?v32) ?hi32 (by kernel_rfl) (by kernel_rfl) (by kernel_rfl) ?hq32 ?hy32 (by assumption) ?hr32
            case hi32 => (simp only [List.getElem?_toArray, List.getElem?_cons_succ, List.getElem?_cons_zero]; rfl)
            case hy32 => ((refine .inl ⟨by rfl, ?_⟩); intro w hS; have q := run_bytes_row (cap := 2) Try.underlying35 Try.underlying5 Try.underlying9 [0, mb] (hS.at (i := 1) rfl) rfl 2 rfl; go_simp; (try with_reducible rfl))
            case hq32 => exact fun _ _ _ h => h
            (simp only [Act.put, List.setIfInBounds_toArray, List.set_cons_zero, List.set_cons_succ])
            refine wpAnyH_take (i := 9) (oi := ?o33) (v := ?v33) ?hi33 (by kernel_rfl) (by kernel_rfl) (by kernel_rfl) ?hq33 ?hy33 (by assumption) ?hr33
            case hi33 => (simp only [List.getElem?_toArray, List.getElem?_cons_succ, List.getElem?_cons_zero]; rfl)
            case hy33 => ((refine .inl ⟨by rfl, ?_⟩); intro w hS; go_simp; (try (rw [if_neg (by (try simp only [ByteArray.size_append]); (try simp); omega)])); (try with_reducible rfl))
            case hq33 => exact fun _ _ _ h => h
            (simp only [Act.put, List.setIfInBounds_toArray, List.set_cons_zero, List.set_cons_succ])
            refine wpAnyH_take (i := 10) (oi := ?o34) (v := ?v34) ?hi34 (by kernel_rfl) (by kernel_rfl) (by kernel_rfl) ?hq34 ?hy34 (by assumption) ?hr34
            case hi34 => (simp only [List.getElem?_toArray, List.getElem?_cons_succ, List.getElem?_cons_zero]; rfl)
            case hy34 => ((refine .inl ⟨by rfl, ?_⟩); intro w hS; go_simp; (try (rw [if_neg (by (try simp only [ByteArray.size_append]); (try simp); omega)])); (try with_reducible rfl))
            case hq34 => exact fun _ _ _ h => h
            (simp only [Act.put, List.setIfInBounds_toArray, List.set_cons_zero, List.set_cons_succ])
            refine wpAnyH_take (i := 14) (oi := ?o35) (v := ?v35) ?hi35 (by kernel_rfl) (by kernel_rfl) (by kernel_rfl) ?hq35 ?hy35 (by assumption) ?hr35
            case hi35 => (simp only [List.getElem?_toArray, List.getElem?_cons_succ, List.getElem?_cons_zero]; rfl)
            case hy35 => ((refine .inl ⟨by rfl, ?_⟩); intro w hS; go_simp; (try (rw [if_neg (by (try simp only [ByteArray.size_append]); (try simp); omega)])); (try with_reducible rfl))
            case hq35 => exact fun _ _ _ h => h
            (simp only [Act.put, List.setIfInBounds_toArray, List.set_cons_zero, List.set_cons_succ])
            refine wpAnyH_take (i := 18) (oi := ?o36) (v := ?v36) ?hi36 (by kernel_rfl) (by kernel_rfl) (by kernel_rfl) ?hq36 ?hy36 (by assumption) ?hr36
            case hi36 => (simp only [List.getElem?_toArray, List.getElem?_cons_succ, List.getElem?_cons_zero]; rfl)
            case hy36 => ((refine .inl ⟨by rfl, ?_⟩); intro w hS; go_simp; (try (rw [if_neg (by (try simp only [ByteArray.size_append]); (try simp); omega)])); (try with_reducible rfl))
            case hq36 => exact fun _ _ _ h => h
            (simp only [Act.put, List.setIfInBounds_toArray, List.set_cons_zero, List.set_cons_succ])
            refine wpAnyH_ready (rs := [19]) (by kernel_rfl) (by simp) ?_
            refine AllReadyH.cons rfl (fun K hK => ?_) AllReadyH.nil
            go_simp
            go_wp2_with ((refine (CZ.out _).mono ?_; rintro e w19 ⟨rfl, hb19⟩))
            refine hK.out _ _ (St.call hb19 hHeld) (fun hHeld1 => ?_)
            clear hK K
            (try simp only [Act.put, List.setIfInBounds_toArray, List.set_cons_zero, List.set_cons_succ])
            clear hHeld; have hHeld := hHeld1; clear hHeld1
            refine wpAnyH_take (i := 20) (oi := ?o37) (v := ?v37) ?hi37 (by kernel_rfl) (by kernel_rfl) (by kernel_rfl) ?hq37 ?hy37 (by assumption) ?hr37
            case hi37 => (simp only [List.getElem?_toArray, List.getElem?_cons_succ, List.getElem?_cons_zero]; rfl)
            case hy37 => ((refine .inl ⟨by rfl, ?_⟩); intro w hS; go_simp; (try (rw [if_neg (by (try simp only [ByteArray.size_append]); (try simp); omega)])); (try with_reducible rfl))
            case hq37 => exact fun _ _ _ h => h
            (simp only [Act.put, List.setIfInBounds_toArray, List.set_cons_zero, List.set_cons_succ])
            refine wpAnyH_take (i := 21) (oi := ?o38) (v := ?v38) ?hi38 (by kernel_rfl) (by kernel_rfl) (by kernel_rfl) ?hq38 ?hy38 (by assumption) ?hr38
            case hi38 => (simp only [List.getElem?_toArray, List.getElem?_cons_succ, List.getElem?_cons_zero]; rfl)
            case hy38 => ((refine .inl ⟨by rfl, ?_⟩); intro w hS; go_simp; (try with_reducible rfl))
            case hq38 => exact fun _ _ _ h => h
            (simp only [Act.put, List.setIfInBounds_toArray, List.set_cons_zero, List.set_cons_succ])
            refine wpAnyH_done (by kernel_rfl) ?_ _
            go_wp2_with fail
            go_ret
            exact ⟨rfl, hHeld.bel⟩
          · skip
            go_simp
            go_wp2_with ((refine (CZ.out _).mono ?_; rintro e w19 ⟨rfl, hb19⟩))
            refine hK.out _ _ (St.call hb19 hHeld) (fun hHeld1 => ?_)
            clear hK K
            (try simp only [Act.put, List.setIfInBounds_toArray, List.set_cons_zero, List.set_cons_succ])
            clear hHeld; have hHeld := hHeld1; clear hHeld1
            refine wpAnyH_ready (rs := [4]) (by kernel_rfl) (by simp) ?_
            refine AllReadyH.cons rfl (fun K hK => ?_) AllReadyH.nil
            go_simp
            refine hK.out _ _ (St.other hHeld _) (fun hHeld1 => ?_)
            clear hK K
            (try simp only [Act.put, List.setIfInBounds_toArray, List.set_cons_zero, List.set_cons_succ])
            refine wpAnyH_row (St.swap (hHeld.new (g := w19.heap.size) rfl #[.int .u8 0, .int .u8 (mb.toNat : Int)] 5)) (fun hHeld2 => ?_)
            clear hHeld hHeld1; have hHeld := hHeld2; clear hHeld2
            refine wpAnyH_take (i := 5) (oi := ?o39) (v := ?v39) ?hi39 (by kernel_rfl) (by kernel_rfl) (by kernel_rfl) ?hq39 ?hy39 (by assumption) ?hr39
            case hi39 => (simp only [List.getElem?_toArray, List.getElem?_cons_succ, List.getElem?_cons_zero]; rfl)
            case hy39 => ((refine .inl ⟨by rfl, ?_⟩); intro w hS; have q := run_bytes_row (cap := 2) Try.underlying35 Try.underlying5 Try.underlying9 [0, mb] (hS.at (i := 1) rfl) rfl 2 rfl; go_simp; (try with_reducible rfl))
            case hq39 => exact fun _ _ _ h => h
            (simp only [Act.put, List.setIfInBounds_toArray, List.set_cons_zero, List.set_cons_succ])
            refine wpAnyH_take (i := 9) (oi := ?o40) (v := ?v40) ?hi40 (by kernel_rfl) (by kernel_rfl) (by kernel_rfl) ?hq40 ?hy40 (by assumption) ?hr40
            case hi40 => (simp only [List.getElem?_toArray, List.getElem?_cons_succ, List.getElem?_cons_zero]; rfl)
            case hy40 => ((refine .inl ⟨by rfl, ?_⟩); intro w hS; go_simp; (try (rw [if_neg (by (try simp only [ByteArray.size_append]); (try simp); omega)])); (try with_reducible rfl))
            case hq40 => exact fun _ _ _ h => h
            (simp only [Act.put, List.setIfInBounds_toArray, List.set_cons_zero, List.set_cons_succ])
            refine wpAnyH_take (i := 10) (oi := ?o41) (v := ?v41) ?hi41 (by kernel_rfl) (by kernel_rfl) (by kernel_rfl) ?hq41 ?hy41 (by assumption) ?hr41
            case hi41 => (simp only [List.getElem?_toArray, List.getElem?_cons_succ, List.getElem?_cons_zero]; rfl)
            case hy41 => ((refine .inl ⟨by rfl, ?_⟩); intro w hS; go_simp; (try (rw [if_neg (by (try simp only [ByteArray.size_append]); (try simp); omega)])); (try with_reducible rfl))
            case hq41 => exact fun _ _ _ h => h
            (simp only [Act.put, List.setIfInBounds_toArray, List.set_cons_zero, List.set_cons_succ])
            refine wpAnyH_take (i := 14) (oi := ?o42) (v := ?v42) ?hi42 (by kernel_rfl) (by kernel_rfl) (by kernel_rfl) ?hq42 ?hy42 (by assumption) ?hr42
            case hi42 => (simp only [List.getElem?_toArray, List.getElem?_cons_succ, List.getElem?_cons_zero]; rfl)
            case hy42 => ((refine .inl ⟨by rfl, ?_⟩); intro w hS; go_simp; (try (rw [if_neg (by (try simp only [ByteArray.size_append]); (try simp); omega)])); (try with_reducible rfl))
            case hq42 => exact fun _ _ _ h => h
            (simp only [Act.put, List.setIfInBounds_toArray, List.set_cons_zero, List.set_cons_succ])
            refine wpAnyH_take (i := 18) (oi := ?o43) (v := ?v43) ?hi43 (by kernel_rfl) (by kernel_rfl) (by kernel_rfl) ?hq43 ?hy43 (by assumption) ?hr43
            case hi43 => (simp only [List.getElem?_toArray, List.getElem?_cons_succ, List.getElem?_cons_zero]; rfl)
            case hy43 => ((refine .inl ⟨by rfl, ?_⟩); intro w hS; go_simp; (try (rw [if_neg (by (try simp only [ByteArray.size_append]); (try simp); omega)])); (try with_reducible rfl))
            case hq43 => exact fun _ _ _ h => h
            (simp only [Act.put, List.setIfInBounds_toArray, List.set_cons_zero, List.set_cons_succ])
            refine wpAnyH_take (i := 20) (oi := ?o44) (v := ?v44) ?hi44 (by kernel_rfl) (by kernel_rfl) (by kernel_rfl) ?hq44 ?hy44 (by assumption) ?hr44
            case hi44 => (simp only [List.getElem?_toArray, List.getElem?_cons_succ, List.getElem?_cons_zero]; rfl)
            case hy44 => ((refine .inl ⟨by rfl, ?_⟩); intro w hS; go_simp; (try (rw [if_neg (by (try simp only [ByteArray.size_append]); (try simp); omega)])); (try with_reducible rfl))
            case hq44 => exact fun _ _ _ h => h
            (simp only [Act.put, List.setIfInBounds_toArray, List.set_cons_zero, List.set_cons_succ])
            refine wpAnyH_take (i := 21) (oi := ?o45) (v := ?v45) ?hi45 (by kernel_rfl) (by kernel_rfl) (by kernel_rfl) ?hq45 ?hy45 (by assumption) ?hr45
            case hi45 => (simp only [List.getElem?_toArray, List.getElem?_cons_succ, List.getElem?_cons_zero]; rfl)
            case hy45 => ((refine .inl ⟨by rfl, ?_⟩); intro w hS; go_simp; (try with_reducible rfl))
            case hq45 => exact fun _ _ _ h => h
            (simp only [Act.put, List.setIfInBounds_toArray, List.set_cons_zero, List.set_cons_succ])
            refine wpAnyH_done (by kernel_rfl) ?_ _
            go_wp2_with fail
            go_ret
            exact ⟨rfl, hHeld.bel⟩
  | true =>
    go_enter Try.func32, Try.ntmps32
    go_wp2_with fail
    go_upto_region 4 with fail
    have h1 := (St.start w).new rfl #[.int .i64 p, .int .i64 (mb.toNat : Int), .int .i64 s, .int .i64 c, .int .i64 l, .bool true] 34
    generalize w.alloc (.cells #[.int .i64 p, .int .i64 (mb.toNat : Int), .int .i64 s, .int .i64 c, .int .i64 l, .bool true] 34) = W1 at h1 ⊢
    refine wp_region_held_drew (S := (fun w' => St w w' [(w.heap.size, 34, #[.int .i64 p, .int .i64 (mb.toNat : Int), .int .i64 s, .int .i64 c, .int .i64 l, .bool true])])) (by kernel_rfl) (h1.drew) (fun hHeld => ?_)
    refine wpAnyH_take (i := 0) (oi := ?o46) (v := ?v46) ?hi46 (by kernel_rfl) (by kernel_rfl) (by kernel_rfl) ?hq46 ?hy46 (by assumption) ?hr46
    case hi46 => (simp only [List.getElem?_toArray, List.getElem?_cons_zero]; rfl)
    case hy46 => ((refine .inl ⟨by rfl, ?_⟩); intro w hS; go_simp; (try with_reducible rfl))
    case hq46 => exact fun _ _ _ h => h
    (simp only [Act.put, List.setIfInBounds_toArray, List.set_cons_zero, List.set_cons_succ])
    refine wpAnyH_take (i := 1) (oi := ?o47) (v := ?v47) ?hi47 (by kernel_rfl) (by kernel_rfl) (by kernel_rfl) ?hq47 ?hy47 (by assumption) ?hr47
    case hi47 => (simp only [List.getElem?_toArray, List.getElem?_cons_succ, List.getElem?_cons_zero]; rfl)
    case hy47 => ((refine .inl ⟨by rfl, ?_⟩); intro w hS; go_simp; (try with_reducible rfl))
    case hq47 => exact fun _ _ _ h => h
    (simp only [Act.put, List.setIfInBounds_toArray, List.set_cons_zero, List.set_cons_succ])
    refine wpAnyH_take (i := 2) (oi := ?o48) (v := ?v48) ?hi48 (by kernel_rfl) (by kernel_rfl) (by kernel_rfl) ?hq48 ?hy48 (by assumption) ?hr48
    case hi48 => (simp only [List.getElem?_toArray, List.getElem?_cons_succ, List.getElem?_cons_zero]; rfl)
    case hy48 => ((refine .inl ⟨by rfl, ?_⟩); intro w hS; have q := (first_row hS).cell; go_simp; (try with_reducible rfl))
    case hq48 => exact fun _ _ _ h => h
    (simp only [Act.put, List.setIfInBounds_toArray, List.set_cons_zero, List.set_cons_succ])
    refine wpAnyH_take (i := 3) (oi := ?o49) (v := ?v49) ?hi49 (by kernel_rfl) (by kernel_rfl) (by kernel_rfl) ?hq49 ?hy49 (by assumption) ?hr49
    case hi49 => (simp only [List.getElem?_toArray, List.getElem?_cons_succ, List.getElem?_cons_zero]; rfl)
    case hy49 => ((refine .inl ⟨by rfl, ?_⟩); intro w hS; go_simp; (try with_reducible rfl))
    case hq49 => exact fun _ _ _ h => h
    (simp only [Act.put, List.setIfInBounds_toArray, List.set_cons_zero, List.set_cons_succ])
    refine wpAnyH_take (i := 6) (oi := ?o50) (v := ?v50) ?hi50 (by kernel_rfl) (by kernel_rfl) (by kernel_rfl) ?hq50 ?hy50 (by assumption) ?hr50
    case hi50 => (simp only [List.getElem?_toArray, List.getElem?_cons_succ, List.getElem?_cons_zero]; rfl)
    case hy50 => ((refine .inl ⟨by rfl, ?_⟩); intro w hS; go_simp; (try with_reducible rfl))
    case hq50 => exact fun _ _ _ h => h
    (simp only [Act.put, List.setIfInBounds_toArray, List.set_cons_zero, List.set_cons_succ])
    refine wpAnyH_take (i := 7) (oi := ?o51) (v := ?v51) ?hi51 (by kernel_rfl) (by kernel_rfl) (by kernel_rfl) ?hq51 ?hy51 (by assumption) ?hr51
    case hi51 => (simp only [List.getElem?_toArray, List.getElem?_cons_succ, List.getElem?_cons_zero]; rfl)
    case hy51 => ((refine .inl ⟨by rfl, ?_⟩); intro w hS; have q := (first_row hS).cell; go_simp; (try with_reducible rfl))
    case hq51 => exact fun _ _ _ h => h
    (simp only [Act.put, List.setIfInBounds_toArray, List.set_cons_zero, List.set_cons_succ])
    refine wpAnyH_take (i := 11) (oi := ?o52) (v := ?v52) ?hi52 (by kernel_rfl) (by kernel_rfl) (by kernel_rfl) ?hq52 ?hy52 (by assumption) ?hr52
    case hi52 => (simp only [List.getElem?_toArray, List.getElem?_cons_succ, List.getElem?_cons_zero]; rfl)
    case hy52 => ((refine .inl ⟨by rfl, ?_⟩); intro w hS; go_simp; (try with_reducible rfl))
    case hq52 => exact fun _ _ _ h => h
    (simp only [Act.put, List.setIfInBounds_toArray, List.set_cons_zero, List.set_cons_succ])
    refine wpAnyH_take (i := 12) (oi := ?o53) (v := ?v53) ?hi53 (by kernel_rfl) (by kernel_rfl) (by kernel_rfl) ?hq53 ?hy53 (by assumption) ?hr53
    case hi53 => (simp only [List.getElem?_toArray, List.getElem?_cons_succ, List.getElem?_cons_zero]; rfl)
    case hy53 => ((refine .inl ⟨by rfl, ?_⟩); intro w hS; have q := (first_row hS).cell; go_simp; (try with_reducible rfl))
    case hq53 => exact fun _ _ _ h => h
    (simp only [Act.put, List.setIfInBounds_toArray, List.set_cons_zero, List.set_cons_succ])
    refine wpAnyH_take (i := 15) (oi := ?o54) (v := ?v54) ?hi54 (by kernel_rfl) (by kernel_rfl) (by kernel_rfl) ?hq54 ?hy54 (by assumption) ?hr54
    case hi54 => (simp only [List.getElem?_toArray, List.getElem?_cons_succ, List.getElem?_cons_zero]; rfl)
    case hy54 => ((refine .inl ⟨by rfl, ?_⟩); intro w hS; go_simp; (try with_reducible rfl))
    case hq54 => exact fun _ _ _ h => h
    (simp only [Act.put, List.setIfInBounds_toArray, List.set_cons_zero, List.set_cons_succ])
    refine wpAnyH_take (i := 16) (oi := ?o55) (v := ?v55) ?hi55 (by kernel_rfl) (by kernel_rfl) (by kernel_rfl) ?hq55 ?hy55 (by assumption) ?hr55
    case hi55 => (simp only [List.getElem?_toArray, List.getElem?_cons_succ, List.getElem?_cons_zero]; rfl)
    case hy55 => ((refine .inl ⟨by rfl, ?_⟩); intro w hS; have q := (first_row hS).cell; go_simp; (try with_reducible rfl))
    case hq55 => exact fun _ _ _ h => h
    (simp only [Act.put, List.setIfInBounds_toArray, List.set_cons_zero, List.set_cons_succ])
    refine wpAnyH_ready (rs := [4, 8]) (by kernel_rfl) (by simp) ?_
    refine AllReadyH.cons rfl (fun K hK => ?_) (AllReadyH.cons rfl (fun K hK => ?_) AllReadyH.nil)
    · skip
      go_simp
      refine hK.out _ _ (St.other hHeld _) (fun hHeld1 => ?_)
      clear hK K
      (try simp only [Act.put, List.setIfInBounds_toArray, List.set_cons_zero, List.set_cons_succ])
      refine wpAnyH_row (St.swap (hHeld.new (g := W1.heap.size) rfl #[.int .u8 136, .int .u8 (mb.toNat : Int)] 5)) (fun hHeld2 => ?_)
      clear hHeld hHeld1; have hHeld := hHeld2; clear hHeld2
      refine wpAnyH_take (i := 5) (oi := ?o56) (v := ?v56) ?hi56 (by kernel_rfl) (by kernel_rfl) (by kernel_rfl) ?hq56 ?hy56 (by assumption) ?hr56
      case hi56 => (simp only [List.getElem?_toArray, List.getElem?_cons_succ, List.getElem?_cons_zero]; rfl)
      case hy56 => ((refine .inl ⟨by rfl, ?_⟩); intro w hS; have q := run_bytes_row (cap := 2) Try.underlying35 Try.underlying5 Try.underlying9 [136, mb] (hS.at (i := 1) rfl) rfl 2 rfl; go_simp; (try with_reducible rfl))
      case hq56 => exact fun _ _ _ h => h
      (simp only [Act.put, List.setIfInBounds_toArray, List.set_cons_zero, List.set_cons_succ])
      refine wpAnyH_ready (rs := [8]) (by kernel_rfl) (by simp) ?_
      refine AllReadyH.cons rfl (fun K hK => ?_) AllReadyH.nil
      go_simp
      go_wp2_with ((refine (C2.out _).mono ?_; rintro e w8 ⟨rfl, hb8⟩))
      refine hK.out _ _ (St.call hb8 hHeld) (fun hHeld1 => ?_)
      clear hK K
      (try simp only [Act.put, List.setIfInBounds_toArray, List.set_cons_zero, List.set_cons_succ])
      clear hHeld; have hHeld := hHeld1; clear hHeld1
      refine wpAnyH_take (i := 9) (oi := ?o57) (v := ?v57) ?hi57 (by kernel_rfl) (by kernel_rfl) (by kernel_rfl) ?hq57 ?hy57 (by assumption) ?hr57
      case hi57 => (simp only [List.getElem?_toArray, List.getElem?_cons_succ, List.getElem?_cons_zero]; rfl)
      case hy57 => ((refine .inl ⟨by rfl, ?_⟩); intro w hS; go_simp; (try (rw [if_neg (by (try simp only [ByteArray.size_append]); (try simp); omega)])); (try with_reducible rfl))
      case hq57 => exact fun _ _ _ h => h
      (simp only [Act.put, List.setIfInBounds_toArray, List.set_cons_zero, List.set_cons_succ])
      refine wpAnyH_take (i := 10) (oi := ?o58) (v := ?v58) ?hi58 (by kernel_rfl) (by kernel_rfl) (by kernel_rfl) ?hq58 ?hy58 (by assumption) ?hr58
      case hi58 => (simp only [List.getElem?_toArray, List.getElem?_cons_succ, List.getElem?_cons_zero]; rfl)
      case hy58 => ((refine .inl ⟨by rfl, ?_⟩); intro w hS; go_simp; (try (rw [if_neg (by (try simp only [ByteArray.size_append]); (try simp); omega)])); (try with_reducible rfl))
      case hq58 => exact fun _ _ _ h => h
      (simp only [Act.put, List.setIfInBounds_toArray, List.set_cons_zero, List.set_cons_succ])
      refine wpAnyH_ready (rs := [13]) (by kernel_rfl) (by simp) ?_
      refine AllReadyH.cons rfl (fun K hK => ?_) AllReadyH.nil
      go_simp
      go_wp2_with ((refine (C3.out _).mono ?_; rintro e w13 ⟨rfl, hb13⟩))
      refine hK.out _ _ (St.call hb13 hHeld) (fun hHeld1 => ?_)
      clear hK K
      (try simp only [Act.put, List.setIfInBounds_toArray, List.set_cons_zero, List.set_cons_succ])
      clear hHeld; have hHeld := hHeld1; clear hHeld1
      refine wpAnyH_take (i := 14) (oi := ?o59) (v := ?v59) ?hi59 (by kernel_rfl) (by kernel_rfl) (by kernel_rfl) ?hq59 ?hy59 (by assumption) ?hr59
      case hi59 => (simp only [List.getElem?_toArray, List.getElem?_cons_succ, List.getElem?_cons_zero]; rfl)
      case hy59 => ((refine .inl ⟨by rfl, ?_⟩); intro w hS; go_simp; (try (rw [if_neg (by (try simp only [ByteArray.size_append]); (try simp); omega)])); (try with_reducible rfl))
      case hq59 => exact fun _ _ _ h => h
      (simp only [Act.put, List.setIfInBounds_toArray, List.set_cons_zero, List.set_cons_succ])
      refine wpAnyH_ready (rs := [17]) (by kernel_rfl) (by simp) ?_
      refine AllReadyH.cons rfl (fun K hK => ?_) AllReadyH.nil
      go_simp
      go_wp2_with ((refine (C4.out _).mono ?_; rintro e w17 ⟨rfl, hb17⟩))
      refine hK.out _ _ (St.call hb17 hHeld) (fun hHeld1 => ?_)
      clear hK K
      (try simp only [Act.put, List.setIfInBounds_toArray, List.set_cons_zero, List.set_cons_succ])
      clear hHeld; have hHeld := hHeld1; clear hHeld1
      refine wpAnyH_take (i := 18) (oi := ?o60) (v := ?v60) ?hi60 (by kernel_rfl) (by kernel_rfl) (by kernel_rfl) ?hq60 ?hy60 (by assumption) ?hr60
      case hi60 => (simp only [List.getElem?_toArray, List.getElem?_cons_succ, List.getElem?_cons_zero]; rfl)
      case hy60 => ((refine .inl ⟨by rfl, ?_⟩); intro w hS; go_simp; (try (rw [if_neg (by (try simp only [ByteArray.size_append]); (try simp); omega)])); (try with_reducible rfl))
      case hq60 => exact fun _ _ _ h => h
      (simp only [Act.put, List.setIfInBounds_toArray, List.set_cons_zero, List.set_cons_succ])
      refine wpAnyH_ready (rs := [19]) (by kernel_rfl) (by simp) ?_
      refine AllReadyH.cons rfl (fun K hK => ?_) AllReadyH.nil
      go_simp
      go_wp2_with ((refine (CZ.out _).mono ?_; rintro e w19 ⟨rfl, hb19⟩))
      refine hK.out _ _ (St.call hb19 hHeld) (fun hHeld1 => ?_)
      clear hK K
      (try simp only [Act.put, List.setIfInBounds_toArray, List.set_cons_zero, List.set_cons_succ])
      clear hHeld; have hHeld := hHeld1; clear hHeld1
      refine wpAnyH_take (i := 20) (oi := ?o61) (v := ?v61) ?hi61 (by kernel_rfl) (by kernel_rfl) (by kernel_rfl) ?hq61 ?hy61 (by assumption) ?hr61
      case hi61 => (simp only [List.getElem?_toArray, List.getElem?_cons_succ, List.getElem?_cons_zero]; rfl)
      case hy61 => ((refine .inl ⟨by rfl, ?_⟩); intro w hS; go_simp; (try (rw [if_neg (by (try simp only [ByteArray.size_append]); (try simp); omega)])); (try with_reducible rfl))
      case hq61 => exact fun _ _ _ h => h
      (simp only [Act.put, List.setIfInBounds_toArray, List.set_cons_zero, List.set_cons_succ])
      refine wpAnyH_take (i := 21) (oi := ?o62) (v := ?v62) ?hi62 (by kernel_rfl) (by kernel_rfl) (by kernel_rfl) ?hq62 ?hy62 (by assumption) ?hr62
      case hi62 => (simp only [List.getElem?_toArray, List.getElem?_cons_succ, List.getElem?_cons_zero]; rfl)
      case hy62 => ((refine .inl ⟨by rfl, ?_⟩); intro w hS; go_simp; (try with_reducible rfl))
      case hq62 => exact fun _ _ _ h => h
      (simp only [Act.put, List.setIfInBounds_toArray, List.set_cons_zero, List.set_cons_succ])
      refine wpAnyH_done (by kernel_rfl) ?_ _
      go_wp2_with fail
      go_ret
      exact ⟨rfl, hHeld.bel⟩
    · skip
      go_simp
      go_wp2_with ((refine (C2.out _).mono ?_; rintro e w8 ⟨rfl, hb8⟩))
      refine hK.out _ _ (St.call hb8 hHeld) (fun hHeld1 => ?_)
      clear hK K
      (try simp only [Act.put, List.setIfInBounds_toArray, List.set_cons_zero, List.set_cons_succ])
      clear hHeld; have hHeld := hHeld1; clear hHeld1
      refine wpAnyH_ready (rs := [4, 13]) (by kernel_rfl) (by simp) ?_
      refine AllReadyH.cons rfl (fun K hK => ?_) (AllReadyH.cons rfl (fun K hK => ?_) AllReadyH.nil)
      · skip
        go_simp
        refine hK.out _ _ (St.other hHeld _) (fun hHeld1 => ?_)
        clear hK K
        (try simp only [Act.put, List.setIfInBounds_toArray, List.set_cons_zero, List.set_cons_succ])
        refine wpAnyH_row (St.swap (hHeld.new (g := w8.heap.size) rfl #[.int .u8 136, .int .u8 (mb.toNat : Int)] 5)) (fun hHeld2 => ?_)
        clear hHeld hHeld1; have hHeld := hHeld2; clear hHeld2
        refine wpAnyH_take (i := 5) (oi := ?o63) (v := ?v63) ?hi63 (by kernel_rfl) (by kernel_rfl) (by kernel_rfl) ?hq63 ?hy63 (by assumption) ?hr63
        case hi63 => (simp only [List.getElem?_toArray, List.getElem?_cons_succ, List.getElem?_cons_zero]; rfl)
        case hy63 => ((refine .inl ⟨by rfl, ?_⟩); intro w hS; have q := run_bytes_row (cap := 2) Try.underlying35 Try.underlying5 Try.underlying9 [136, mb] (hS.at (i := 1) rfl) rfl 2 rfl; go_simp; (try with_reducible rfl))
        case hq63 => exact fun _ _ _ h => h
        (simp only [Act.put, List.setIfInBounds_toArray, List.set_cons_zero, List.set_cons_succ])
        refine wpAnyH_take (i := 9) (oi := ?o64) (v := ?v64) ?hi64 (by kernel_rfl) (by kernel_rfl) (by kernel_rfl) ?hq64 ?hy64 (by assumption) ?hr64
        case hi64 => (simp only [List.getElem?_toArray, List.getElem?_cons_succ, List.getElem?_cons_zero]; rfl)
        case hy64 => ((refine .inl ⟨by rfl, ?_⟩); intro w hS; go_simp; (try (rw [if_neg (by (try simp only [ByteArray.size_append]); (try simp); omega)])); (try with_reducible rfl))
        case hq64 => exact fun _ _ _ h => h
        (simp only [Act.put, List.setIfInBounds_toArray, List.set_cons_zero, List.set_cons_succ])
        refine wpAnyH_take (i := 10) (oi := ?o65) (v := ?v65) ?hi65 (by kernel_rfl) (by kernel_rfl) (by kernel_rfl) ?hq65 ?hy65 (by assumption) ?hr65
        case hi65 => (simp only [List.getElem?_toArray, List.getElem?_cons_succ, List.getElem?_cons_zero]; rfl)
        case hy65 => ((refine .inl ⟨by rfl, ?_⟩); intro w hS; go_simp; (try (rw [if_neg (by (try simp only [ByteArray.size_append]); (try simp); omega)])); (try with_reducible rfl))
        case hq65 => exact fun _ _ _ h => h
        (simp only [Act.put, List.setIfInBounds_toArray, List.set_cons_zero, List.set_cons_succ])
        refine wpAnyH_ready (rs := [13]) (by kernel_rfl) (by simp) ?_
        refine AllReadyH.cons rfl (fun K hK => ?_) AllReadyH.nil
        go_simp
        go_wp2_with ((refine (C3.out _).mono ?_; rintro e w13 ⟨rfl, hb13⟩))
        refine hK.out _ _ (St.call hb13 hHeld) (fun hHeld1 => ?_)
        clear hK K
        (try simp only [Act.put, List.setIfInBounds_toArray, List.set_cons_zero, List.set_cons_succ])
        clear hHeld; have hHeld := hHeld1; clear hHeld1
        refine wpAnyH_take (i := 14) (oi := ?o66) (v := ?v66) ?hi66 (by kernel_rfl) (by kernel_rfl) (by kernel_rfl) ?hq66 ?hy66 (by assumption) ?hr66
        case hi66 => (simp only [List.getElem?_toArray, List.getElem?_cons_succ, List.getElem?_cons_zero]; rfl)
        case hy66 => ((refine .inl ⟨by rfl, ?_⟩); intro w hS; go_simp; (try (rw [if_neg (by (try simp only [ByteArray.size_append]); (try simp); omega)])); (try with_reducible rfl))
        case hq66 => exact fun _ _ _ h => h
        (simp only [Act.put, List.setIfInBounds_toArray, List.set_cons_zero, List.set_cons_succ])
        refine wpAnyH_ready (rs := [17]) (by kernel_rfl) (by simp) ?_
        refine AllReadyH.cons rfl (fun K hK => ?_) AllReadyH.nil
        go_simp
        go_wp2_with ((refine (C4.out _).mono ?_; rintro e w17 ⟨rfl, hb17⟩))
        refine hK.out _ _ (St.call hb17 hHeld) (fun hHeld1 => ?_)
        clear hK K
        (try simp only [Act.put, List.setIfInBounds_toArray, List.set_cons_zero, List.set_cons_succ])
        clear hHeld; have hHeld := hHeld1; clear hHeld1
        refine wpAnyH_take (i := 18) (oi := ?o67) (v := ?v67) ?hi67 (by kernel_rfl) (by kernel_rfl) (by kernel_rfl) ?hq67 ?hy67 (by assumption) ?hr67
        case hi67 => (simp only [List.getElem?_toArray, List.getElem?_cons_succ, List.getElem?_cons_zero]; rfl)
        case hy67 => ((refine .inl ⟨by rfl, ?_⟩); intro w hS; go_simp; (try (rw [if_neg (by (try simp only [ByteArray.size_append]); (try simp); omega)])); (try with_reducible rfl))
        case hq67 => exact fun _ _ _ h => h
        (simp only [Act.put, List.setIfInBounds_toArray, List.set_cons_zero, List.set_cons_succ])
        refine wpAnyH_ready (rs := [19]) (by kernel_rfl) (by simp) ?_
        refine AllReadyH.cons rfl (fun K hK => ?_) AllReadyH.nil
        go_simp
        go_wp2_with ((refine (CZ.out _).mono ?_; rintro e w19 ⟨rfl, hb19⟩))
        refine hK.out _ _ (St.call hb19 hHeld) (fun hHeld1 => ?_)
        clear hK K
        (try simp only [Act.put, List.setIfInBounds_toArray, List.set_cons_zero, List.set_cons_succ])
        clear hHeld; have hHeld := hHeld1; clear hHeld1
        refine wpAnyH_take (i := 20) (oi := ?o68) (v := ?v68) ?hi68 (by kernel_rfl) (by kernel_rfl) (by kernel_rfl) ?hq68 ?hy68 (by assumption) ?hr68
        case hi68 => (simp only [List.getElem?_toArray, List.getElem?_cons_succ, List.getElem?_cons_zero]; rfl)
        case hy68 => ((refine .inl ⟨by rfl, ?_⟩); intro w hS; go_simp; (try (rw [if_neg (by (try simp only [ByteArray.size_append]); (try simp); omega)])); (try with_reducible rfl))
        case hq68 => exact fun _ _ _ h => h
        (simp only [Act.put, List.setIfInBounds_toArray, List.set_cons_zero, List.set_cons_succ])
        refine wpAnyH_take (i := 21) (oi := ?o69) (v := ?v69) ?hi69 (by kernel_rfl) (by kernel_rfl) (by kernel_rfl) ?hq69 ?hy69 (by assumption) ?hr69
        case hi69 => (simp only [List.getElem?_toArray, List.getElem?_cons_succ, List.getElem?_cons_zero]; rfl)
        case hy69 => ((refine .inl ⟨by rfl, ?_⟩); intro w hS; go_simp; (try with_reducible rfl))
        case hq69 => exact fun _ _ _ h => h
        (simp only [Act.put, List.setIfInBounds_toArray, List.set_cons_zero, List.set_cons_succ])
        refine wpAnyH_done (by kernel_rfl) ?_ _
        go_wp2_with fail
        go_ret
        exact ⟨rfl, hHeld.bel⟩
      · skip
        go_simp
        go_wp2_with ((refine (C3.out _).mono ?_; rintro e w13 ⟨rfl, hb13⟩))
        refine hK.out _ _ (St.call hb13 hHeld) (fun hHeld1 => ?_)
        clear hK K
        (try simp only [Act.put, List.setIfInBounds_toArray, List.set_cons_zero, List.set_cons_succ])
        clear hHeld; have hHeld := hHeld1; clear hHeld1
        refine wpAnyH_ready (rs := [4, 17]) (by kernel_rfl) (by simp) ?_
        refine AllReadyH.cons rfl (fun K hK => ?_) (AllReadyH.cons rfl (fun K hK => ?_) AllReadyH.nil)
        · skip
          go_simp
          refine hK.out _ _ (St.other hHeld _) (fun hHeld1 => ?_)
          clear hK K
          (try simp only [Act.put, List.setIfInBounds_toArray, List.set_cons_zero, List.set_cons_succ])
          refine wpAnyH_row (St.swap (hHeld.new (g := w13.heap.size) rfl #[.int .u8 136, .int .u8 (mb.toNat : Int)] 5)) (fun hHeld2 => ?_)
          clear hHeld hHeld1; have hHeld := hHeld2; clear hHeld2
          refine wpAnyH_take (i := 5) (oi := ?o70) (v := ?v70) ?hi70 (by kernel_rfl) (by kernel_rfl) (by kernel_rfl) ?hq70 ?hy70 (by assumption) ?hr70
          case hi70 => (simp only [List.getElem?_toArray, List.getElem?_cons_succ, List.getElem?_cons_zero]; rfl)
          case hy70 => ((refine .inl ⟨by rfl, ?_⟩); intro w hS; have q := run_bytes_row (cap := 2) Try.underlying35 Try.underlying5 Try.underlying9 [136, mb] (hS.at (i := 1) rfl) rfl 2 rfl; go_simp; (try with_reducible rfl))
          case hq70 => exact fun _ _ _ h => h
          (simp only [Act.put, List.setIfInBounds_toArray, List.set_cons_zero, List.set_cons_succ])
          refine wpAnyH_take (i := 9) (oi := ?o71) (v := ?v71) ?hi71 (by kernel_rfl) (by kernel_rfl) (by kernel_rfl) ?hq71 ?hy71 (by assumption) ?hr71
          case hi71 => (simp only [List.getElem?_toArray, List.getElem?_cons_succ, List.getElem?_cons_zero]; rfl)
          case hy71 => ((refine .inl ⟨by rfl, ?_⟩); intro w hS; go_simp; (try (rw [if_neg (by (try simp only [ByteArray.size_append]); (try simp); omega)])); (try with_reducible rfl))
          case hq71 => exact fun _ _ _ h => h
          (simp only [Act.put, List.setIfInBounds_toArray, List.set_cons_zero, List.set_cons_succ])
          refine wpAnyH_take (i := 10) (oi := ?o72) (v := ?v72) ?hi72 (by kernel_rfl) (by kernel_rfl) (by kernel_rfl) ?hq72 ?hy72 (by assumption) ?hr72
          case hi72 => (simp only [List.getElem?_toArray, List.getElem?_cons_succ, List.getElem?_cons_zero]; rfl)
          case hy72 => ((refine .inl ⟨by rfl, ?_⟩); intro w hS; go_simp; (try (rw [if_neg (by (try simp only [ByteArray.size_append]); (try simp); omega)])); (try with_reducible rfl))
          case hq72 => exact fun _ _ _ h => h
          (simp only [Act.put, List.setIfInBounds_toArray, List.set_cons_zero, List.set_cons_succ])
          refine wpAnyH_take (i := 14) (oi := ?o73) (v := ?v73) ?hi73 (by kernel_rfl) (by kernel_rfl) (by kernel_rfl) ?hq73 ?hy73 (by assumption) ?hr73
          case hi73 => (simp only [List.getElem?_toArray, List.getElem?_cons_succ, List.getElem?_cons_zero]; rfl)
          case hy73 => ((refine .inl ⟨by rfl, ?_⟩); intro w hS; go_simp; (try (rw [if_neg (by (try simp only [ByteArray.size_append]); (try simp); omega)])); (try with_reducible rfl))
          case hq73 => exact fun _ _ _ h => h
          (simp only [Act.put, List.setIfInBounds_toArray, List.set_cons_zero, List.set_cons_succ])
          refine wpAnyH_ready (rs := [17]) (by kernel_rfl) (by simp) ?_
          refine AllReadyH.cons rfl (fun K hK => ?_) AllReadyH.nil
          go_simp
          go_wp2_with ((refine (C4.out _).mono ?_; rintro e w17 ⟨rfl, hb17⟩))
          refine hK.out _ _ (St.call hb17 hHeld) (fun hHeld1 => ?_)
          clear hK K
          (try simp only [Act.put, List.setIfInBounds_toArray, List.set_cons_zero, List.set_cons_succ])
          clear hHeld; have hHeld := hHeld1; clear hHeld1
          refine wpAnyH_take (i := 18) (oi := ?o74) (v := ?v74) ?hi74 (by kernel_rfl) (by kernel_rfl) (by kernel_rfl) ?hq74 ?hy74 (by assumption) ?hr74
          case hi74 => (simp only [List.getElem?_toArray, List.getElem?_cons_succ, List.getElem?_cons_zero]; rfl)
          case hy74 => ((refine .inl ⟨by rfl, ?_⟩); intro w hS; go_simp; (try (rw [if_neg (by (try simp only [ByteArray.size_append]); (try simp); omega)])); (try with_reducible rfl))
          case hq74 => exact fun _ _ _ h => h
          (simp only [Act.put, List.setIfInBounds_toArray, List.set_cons_zero, List.set_cons_succ])
          refine wpAnyH_ready (rs := [19]) (by kernel_rfl) (by simp) ?_
          refine AllReadyH.cons rfl (fun K hK => ?_) AllReadyH.nil
          go_simp
          go_wp2_with ((refine (CZ.out _).mono ?_; rintro e w19 ⟨rfl, hb19⟩))
          refine hK.out _ _ (St.call hb19 hHeld) (fun hHeld1 => ?_)
          clear hK K
          (try simp only [Act.put, List.setIfInBounds_toArray, List.set_cons_zero, List.set_cons_succ])
          clear hHeld; have hHeld := hHeld1; clear hHeld1
          refine wpAnyH_take (i := 20) (oi := ?o75) (v := ?v75) ?hi75 (by kernel_rfl) (by kernel_rfl) (by kernel_rfl) ?hq75 ?hy75 (by assumption) ?hr75
          case hi75 => (simp only [List.getElem?_toArray, List.getElem?_cons_succ, List.getElem?_cons_zero]; rfl)
          case hy75 => ((refine .inl ⟨by rfl, ?_⟩); intro w hS; go_simp; (try (rw [if_neg (by (try simp only [ByteArray.size_append]); (try simp); omega)])); (try with_reducible rfl))
          case hq75 => exact fun _ _ _ h => h
          (simp only [Act.put, List.setIfInBounds_toArray, List.set_cons_zero, List.set_cons_succ])
          refine wpAnyH_take (i := 21) (oi := ?o76) (v := ?v76) ?hi76 (by kernel_rfl) (by kernel_rfl) (by kernel_rfl) ?hq76 ?hy76 (by assumption) ?hr76
          case hi76 => (simp only [List.getElem?_toArray, List.getElem?_cons_succ, List.getElem?_cons_zero]; rfl)
          case hy76 => ((refine .inl ⟨by rfl, ?_⟩); intro w hS; go_simp; (try with_reducible rfl))
          case hq76 => exact fun _ _ _ h => h
          (simp only [Act.put, List.setIfInBounds_toArray, List.set_cons_zero, List.set_cons_succ])
          refine wpAnyH_done (by kernel_rfl) ?_ _
          go_wp2_with fail
          go_ret
          exact ⟨rfl, hHeld.bel⟩
        · skip
          go_simp
          go_wp2_with ((refine (C4.out _).mono ?_; rintro e w17 ⟨rfl, hb17⟩))
          refine hK.out _ _ (St.call hb17 hHeld) (fun hHeld1 => ?_)
          clear hK K
          (try simp only [Act.put, List.setIfInBounds_toArray, List.set_cons_zero, List.set_cons_succ])
          clear hHeld; have hHeld := hHeld1; clear hHeld1
          refine wpAnyH_ready (rs := [4, 19]) (by kernel_rfl) (by simp) ?_
          refine AllReadyH.cons rfl (fun K hK => ?_) (AllReadyH.cons rfl (fun K hK => ?_) AllReadyH.nil)
          · skip
            go_simp
            refine hK.out _ _ (St.other hHeld _) (fun hHeld1 => ?_)
            clear hK K
            (try simp only [Act.put, List.setIfInBounds_toArray, List.set_cons_zero, List.set_cons_succ])
            refine wpAnyH_row (St.swap (hHeld.new (g := w17.heap.size) rfl #[.int .u8 136, .int .u8 (mb.toNat : Int)] 5)) (fun hHeld2 => ?_)
            clear hHeld hHeld1; have hHeld := hHeld2; clear hHeld2
            refine wpAnyH_take (i := 5) (oi := ?o77) (v := ?v77) ?hi77 (by kernel_rfl) (by kernel_rfl) (by kernel_rfl) ?hq77 ?hy77 (by assumption) ?hr77
            case hi77 => (simp only [List.getElem?_toArray, List.getElem?_cons_succ, List.getElem?_cons_zero]; rfl)
            case hy77 => ((refine .inl ⟨by rfl, ?_⟩); intro w hS; have q := run_bytes_row (cap := 2) Try.underlying35 Try.underlying5 Try.underlying9 [136, mb] (hS.at (i := 1) rfl) rfl 2 rfl; go_simp; (try with_reducible rfl))
            case hq77 => exact fun _ _ _ h => h
            (simp only [Act.put, List.setIfInBounds_toArray, List.set_cons_zero, List.set_cons_succ])
            refine wpAnyH_take (i := 9) (oi := ?o78) (v := ?v78) ?hi78 (by kernel_rfl) (by kernel_rfl) (by kernel_rfl) ?hq78 ?hy78 (by assumption) ?hr78
            case hi78 => (simp only [List.getElem?_toArray, List.getElem?_cons_succ, List.getElem?_cons_zero]; rfl)
            case hy78 => ((refine .inl ⟨by rfl, ?_⟩); intro w hS; go_simp; (try (rw [if_neg (by (try simp only [ByteArray.size_append]); (try simp); omega)])); (try with_reducible rfl))
            case hq78 => exact fun _ _ _ h => h
            (simp only [Act.put, List.setIfInBounds_toArray, List.set_cons_zero, List.set_cons_succ])
            refine wpAnyH_take (i := 10) (oi := ?o79) (v := ?v79) ?hi79 (by kernel_rfl) (by kernel_rfl) (by kernel_rfl) ?hq79 ?hy79 (by assumption) ?hr79
            case hi79 => (simp only [List.getElem?_toArray, List.getElem?_cons_succ, List.getElem?_cons_zero]; rfl)
            case hy79 => ((refine .inl ⟨by rfl, ?_⟩); intro w hS; go_simp; (try (rw [if_neg (by (try simp only [ByteArray.size_append]); (try simp); omega)])); (try with_reducible rfl))
            case hq79 => exact fun _ _ _ h => h
            (simp only [Act.put, List.setIfInBounds_toArray, List.set_cons_zero, List.set_cons_succ])
            refine wpAnyH_take (i := 14) (oi := ?o80) (v := ?v80) ?hi80 (by kernel_rfl) (by kernel_rfl) (by kernel_rfl) ?hq80 ?hy80 (by assumption) ?hr80
            case hi80 => (simp only [List.getElem?_toArray, List.getElem?_cons_succ, List.getElem?_cons_zero]; rfl)
            case hy80 => ((refine .inl ⟨by rfl, ?_⟩); intro w hS; go_simp; (try (rw [if_neg (by (try simp only [ByteArray.size_append]); (try simp); omega)])); (try with_reducible rfl))
            case hq80 => exact fun _ _ _ h => h
            (simp only [Act.put, List.setIfInBounds_toArray, List.set_cons_zero, List.set_cons_succ])
            refine wpAnyH_take (i := 18) (oi := ?o81) (v := ?v81) ?hi81 (by kernel_rfl) (by kernel_rfl) (by kernel_rfl) ?hq81 ?hy81 (by assumption) ?hr81
            case hi81 => (simp only [List.getElem?_toArray, List.getElem?_cons_succ, List.getElem?_cons_zero]; rfl)
            case hy81 => ((refine .inl ⟨by rfl, ?_⟩); intro w hS; go_simp; (try (rw [if_neg (by (try simp only [ByteArray.size_append]); (try simp); omega)])); (try with_reducible rfl))
            case hq81 => exact fun _ _ _ h => h
            (simp only [Act.put, List.setIfInBounds_toArray, List.set_cons_zero, List.set_cons_succ])
            refine wpAnyH_ready (rs := [19]) (by kernel_rfl) (by simp) ?_
            refine AllReadyH.cons rfl (fun K hK => ?_) AllReadyH.nil
            go_simp
            go_wp2_with ((refine (CZ.out _).mono ?_; rintro e w19 ⟨rfl, hb19⟩))
            refine hK.out _ _ (St.call hb19 hHeld) (fun hHeld1 => ?_)
            clear hK K
            (try simp only [Act.put, List.setIfInBounds_toArray, List.set_cons_zero, List.set_cons_succ])
            clear hHeld; have hHeld := hHeld1; clear hHeld1
            refine wpAnyH_take (i := 20) (oi := ?o82) (v := ?v82) ?hi82 (by kernel_rfl) (by kernel_rfl) (by kernel_rfl) ?hq82 ?hy82 (by assumption) ?hr82
            case hi82 => (simp only [List.getElem?_toArray, List.getElem?_cons_succ, List.getElem?_cons_zero]; rfl)
            case hy82 => ((refine .inl ⟨by rfl, ?_⟩); intro w hS; go_simp; (try (rw [if_neg (by (try simp only [ByteArray.size_append]); (try simp); omega)])); (try with_reducible rfl))
            case hq82 => exact fun _ _ _ h => h
            (simp only [Act.put, List.setIfInBounds_toArray, List.set_cons_zero, List.set_cons_succ])
            refine wpAnyH_take (i := 21) (oi := ?o83) (v := ?v83) ?hi83 (by kernel_rfl) (by kernel_rfl) (by kernel_rfl) ?hq83 ?hy83 (by assumption) ?hr83
            case hi83 => (simp only [List.getElem?_toArray, List.getElem?_cons_succ, List.getElem?_cons_zero]; rfl)
            case hy83 => ((refine .inl ⟨by rfl, ?_⟩); intro w hS; go_simp; (try with_reducible rfl))
            case hq83 => exact fun _ _ _ h => h
            (simp only [Act.put, List.setIfInBounds_toArray, List.set_cons_zero, List.set_cons_succ])
            refine wpAnyH_done (by kernel_rfl) ?_ _
            go_wp2_with fail
            go_ret
            exact ⟨rfl, hHeld.bel⟩
          · skip
            go_simp
            go_wp2_with ((refine (CZ.out _).mono ?_; rintro e w19 ⟨rfl, hb19⟩))
            refine hK.out _ _ (St.call hb19 hHeld) (fun hHeld1 => ?_)
            clear hK K
            (try simp only [Act.put, List.setIfInBounds_toArray, List.set_cons_zero, List.set_cons_succ])
            clear hHeld; have hHeld := hHeld1; clear hHeld1
            refine wpAnyH_ready (rs := [4]) (by kernel_rfl) (by simp) ?_
            refine AllReadyH.cons rfl (fun K hK => ?_) AllReadyH.nil
            go_simp
            refine hK.out _ _ (St.other hHeld _) (fun hHeld1 => ?_)
            clear hK K
            (try simp only [Act.put, List.setIfInBounds_toArray, List.set_cons_zero, List.set_cons_succ])
            refine wpAnyH_row (St.swap (hHeld.new (g := w19.heap.size) rfl #[.int .u8 136, .int .u8 (mb.toNat : Int)] 5)) (fun hHeld2 => ?_)
            clear hHeld hHeld1; have hHeld := hHeld2; clear hHeld2
            refine wpAnyH_take (i := 5) (oi := ?o84) (v := ?v84) ?hi84 (by kernel_rfl) (by kernel_rfl) (by kernel_rfl) ?hq84 ?hy84 (by assumption) ?hr84
            case hi84 => (simp only [List.getElem?_toArray, List.getElem?_cons_succ, List.getElem?_cons_zero]; rfl)
            case hy84 => ((refine .inl ⟨by rfl, ?_⟩); intro w hS; have q := run_bytes_row (cap := 2) Try.underlying35 Try.underlying5 Try.underlying9 [136, mb] (hS.at (i := 1) rfl) rfl 2 rfl; go_simp; (try with_reducible rfl))
            case hq84 => exact fun _ _ _ h => h
            (simp only [Act.put, List.setIfInBounds_toArray, List.set_cons_zero, List.set_cons_succ])
            refine wpAnyH_take (i := 9) (oi := ?o85) (v := ?v85) ?hi85 (by kernel_rfl) (by kernel_rfl) (by kernel_rfl) ?hq85 ?hy85 (by assumption) ?hr85
            case hi85 => (simp only [List.getElem?_toArray, List.getElem?_cons_succ, List.getElem?_cons_zero]; rfl)
            case hy85 => ((refine .inl ⟨by rfl, ?_⟩); intro w hS; go_simp; (try (rw [if_neg (by (try simp only [ByteArray.size_append]); (try simp); omega)])); (try with_reducible rfl))
            case hq85 => exact fun _ _ _ h => h
            (simp only [Act.put, List.setIfInBounds_toArray, List.set_cons_zero, List.set_cons_succ])
            refine wpAnyH_take (i := 10) (oi := ?o86) (v := ?v86) ?hi86 (by kernel_rfl) (by kernel_rfl) (by kernel_rfl) ?hq86 ?hy86 (by assumption) ?hr86
            case hi86 => (simp only [List.getElem?_toArray, List.getElem?_cons_succ, List.getElem?_cons_zero]; rfl)
            case hy86 => ((refine .inl ⟨by rfl, ?_⟩); intro w hS; go_simp; (try (rw [if_neg (by (try simp only [ByteArray.size_append]); (try simp); omega)])); (try with_reducible rfl))
            case hq86 => exact fun _ _ _ h => h
            (simp only [Act.put, List.setIfInBounds_toArray, List.set_cons_zero, List.set_cons_succ])
            refine wpAnyH_take (i := 14) (oi := ?o87) (v := ?v87) ?hi87 (by kernel_rfl) (by kernel_rfl) (by kernel_rfl) ?hq87 ?hy87 (by assumption) ?hr87
            case hi87 => (simp only [List.getElem?_toArray, List.getElem?_cons_succ, List.getElem?_cons_zero]; rfl)
            case hy87 => ((refine .inl ⟨by rfl, ?_⟩); intro w hS; go_simp; (try (rw [if_neg (by (try simp only [ByteArray.size_append]); (try simp); omega)])); (try with_reducible rfl))
            case hq87 => exact fun _ _ _ h => h
            (simp only [Act.put, List.setIfInBounds_toArray, List.set_cons_zero, List.set_cons_succ])
            refine wpAnyH_take (i := 18) (oi := ?o88) (v := ?v88) ?hi88 (by kernel_rfl) (by kernel_rfl) (by kernel_rfl) ?hq88 ?hy88 (by assumption) ?hr88
            case hi88 => (simp only [List.getElem?_toArray, List.getElem?_cons_succ, List.getElem?_cons_zero]; rfl)
            case hy88 => ((refine .inl ⟨by rfl, ?_⟩); intro w hS; go_simp; (try (rw [if_neg (by (try simp only [ByteArray.size_append]); (try simp); omega)])); (try with_reducible rfl))
            case hq88 => exact fun _ _ _ h => h
            (simp only [Act.put, List.setIfInBounds_toArray, List.set_cons_zero, List.set_cons_succ])
            refine wpAnyH_take (i := 20) (oi := ?o89) (v := ?v89) ?hi89 (by kernel_rfl) (by kernel_rfl) (by kernel_rfl) ?hq89 ?hy89 (by assumption) ?hr89
            case hi89 => (simp only [List.getElem?_toArray, List.getElem?_cons_succ, List.getElem?_cons_zero]; rfl)
            case hy89 => ((refine .inl ⟨by rfl, ?_⟩); intro w hS; go_simp; (try (rw [if_neg (by (try simp only [ByteArray.size_append]); (try simp); omega)])); (try with_reducible rfl))
            case hq89 => exact fun _ _ _ h => h
            (simp only [Act.put, List.setIfInBounds_toArray, List.set_cons_zero, List.set_cons_succ])
            refine wpAnyH_take (i := 21) (oi := ?o90) (v := ?v90) ?hi90 (by kernel_rfl) (by kernel_rfl) (by kernel_rfl) ?hq90 ?hy90 (by assumption) ?hr90
            case hi90 => (simp only [List.getElem?_toArray, List.getElem?_cons_succ, List.getElem?_cons_zero]; rfl)
            case hy90 => ((refine .inl ⟨by rfl, ?_⟩); intro w hS; go_simp; (try with_reducible rfl))
            case hq90 => exact fun _ _ _ h => h
            (simp only [Act.put, List.setIfInBounds_toArray, List.set_cons_zero, List.set_cons_succ])
            refine wpAnyH_done (by kernel_rfl) ?_ _
            go_wp2_with fail
            go_ret
            exact ⟨rfl, hHeld.bel⟩
end Go.Proofs.Ytjlppndlgdgekaa
