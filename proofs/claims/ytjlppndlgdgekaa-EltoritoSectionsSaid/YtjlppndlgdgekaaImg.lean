/-
  The bytes of an entry, of both.
-/
import Derived.Test.YtjlppndlgdgekaaPart2
import Derived.Test.YtjlppndlgdgekaaBuildK
namespace Go.Proofs.Ytjlppndlgdgekaa
open Go.RowKit
set_option linter.unusedVariables false

theorem repeat_zs (n : Nat) : Lib.repeatL [0] n = zs n := by
  induction n with
  | zero => rfl
  | succ n ih => rw [Lib.repeatL, ih]; rfl
theorem zeros_any (n : Nat) (w : World) (h : n ≤ 4096) : Calls Try.prog 18 #[.string ⟨#[0]⟩, .int .i64 n] w fun e w' => e = .returned (.string ⟨(zs n).toArray⟩) ∧ Below w.heap.size w w' := by
  have := Try.strings_Repeat ⟨#[0]⟩ n w (by omega) (by show 1 * n ≤ _; omega)
  rwa [show (⟨#[0]⟩ : ByteArray).data.toList = [0] from rfl, repeat_zs] at this
theorem join_nil (xs : List (List UInt8)) : Lib.join xs [] = xs.flatten := by
  unfold Lib.join
  induction xs with
  | nil => rfl
  | cons x r ih =>
    cases r with
    | nil => simp [List.intercalate]
    | cons y r => simp [List.intercalate] at ih ⊢; exact ih
theorem entry_any (xs : List ByteArray) (g c : Nat) (w : World) (h : RowAt w g 9 (xs.map Value.string).toArray) (hc : xs.length ≤ c) (L : List UInt8) (hL : (xs.map (·.data.toList)).flatten = L) (hl : L.length ≤ 32) (hx : xs.length ≤ 100) :
    Calls Try.prog 25 #[.slice (some ⟨g, 0, none⟩) xs.length c] w fun e w' => e = .returned (.string ⟨(L ++ zs (32 - L.length)).toArray⟩) ∧ Below w.heap.size w w' := by
  have C := Lib.hid (Try.strings_Join g 0 c xs ⟨#[]⟩ w (by
    intro j x hj
    rw [h.cell (0 + j)]
    simp [hj]) h.lt (by omega) hc (by rw [show (⟨#[]⟩ : ByteArray).data.toList = [] from rfl, join_nil, hL]; omega))
  rw [show (⟨#[]⟩ : ByteArray).data.toList = [] from rfl, join_nil, hL] at C
  have hsz : (⟨L.toArray⟩ : ByteArray).size = L.length := rfl
  have HA := Lib.hid (mk_append L (zs (32 - L.length)))
  obtain ⟨n, hn⟩ : ∃ n, 32 - L.length = n := ⟨_, rfl⟩
  have e1 : (32 : Int) - (L.length : Int) = (n : Int) := by omega
  rw [hn] at HA ⊢
  have hnl : n ≤ 4096 := by omega
  generalize hs : (⟨L.toArray⟩ : ByteArray) = s at *
  have e2 : (32 : Int) - (s.size : Int) = (n : Int) := by rw [hsz]; exact e1
  have e3 : IntKind.i64.wrap ((32 : Int) - (s.size : Int)) = (n : Int) := by rw [e2]; exact IntWalk.i64_in _ (by omega)
  have hs32 : (s.size : Int) ≤ 32 := by rw [hsz]; omega
  have HS := Lib.hid hs
  have CZ := Lib.hid (fun w => zeros_any n w hnl)
  have hzz : (⟨(zs n).toArray⟩ : ByteArray).size ≤ 4096 := by
    show (zs n).length ≤ 4096
    rw [zs_length]; exact hnl
  generalize (⟨(zs n).toArray⟩ : ByteArray) = Z at *
  clear h hL hl hs hsz hn e1
  go_enter Try.func25, Try.ntmps25
  go_wp2_with fail
  refine C.out.mono ?_
  rintro e w1 ⟨rfl, hb1⟩
  go_wp2_with fail
  refine (CZ.out _).mono ?_
  rintro e w2 ⟨rfl, hb2⟩
  go_wp2_with fail
  go_ret
  exact ⟨ret_str HA.out, hb1.trans (hb2.mono hb1.size)⟩

theorem imgOk_parts {p m s c l : Int} {b : Bool} (h : imgOk ⟨p, m, s, c, l, b⟩ = true) : (p = 0 ∨ p = 1 ∨ p = 2 ∨ p = 239) ∧ (0 ≤ m ∧ m ≤ 4) ∧ (0 ≤ s ∧ s ≤ 65535) ∧ (0 ≤ c ∧ c ≤ 65535) ∧ (0 ≤ l ∧ l ≤ 4294967295) := by
  unfold imgOk at h
  simp only [Bool.and_eq_true] at h
  obtain ⟨h1, h2, h3, h4, h5⟩ := h
  exact ⟨of_decide_eq_true h1, of_decide_eq_true h2, of_decide_eq_true h3, of_decide_eq_true h4, of_decide_eq_true h5⟩

set_option maxHeartbeats 4000000 in
theorem image_any (x : Img) (w : World) (h : imgOk x = true) : Calls Try.prog 24 #[imV x] w fun e w' => e = .returned (.string ⟨(imgL x).toArray⟩) ∧ Below w.heap.size w w' := by
  obtain ⟨p, m, s, c, l, b⟩ := x
  obtain ⟨_, ⟨m0, m1⟩, ⟨s0, s1⟩, ⟨c0, c1⟩, ⟨l0, l1⟩⟩ := imgOk_parts h
  have C1 := Lib.hid (fun w => number_any m 1 w (by omega))
  have C2 := Lib.hid (fun w => number_any s 2 w (by omega))
  have C3 := Lib.hid (fun w => number_any c 2 w (by omega))
  have C4 := Lib.hid (fun w => number_any l 4 w (by omega))
  rw [str1 m0 (by omega)] at C1
  rw [str2 s0 s1] at C2
  rw [str2 c0 c1] at C3
  rw [str4 l0 l1] at C4
  have CE := Lib.hid (fun g w h => entry_any [⟨#[firstB b]⟩, ⟨(leB m 1).toArray⟩, ⟨(leB s 2).toArray⟩, ⟨#[0, 0]⟩, ⟨(leB c 2).toArray⟩, ⟨(leB l 4).toArray⟩] g 6 w h (by simp) (imgP ⟨p, m, s, c, l, b⟩) (by simp [imgP]) (by rw [imgP_length]; omega) (by simp))
  rw [imgP_length] at CE
  have HF : Hid (imgP ⟨p, m, s, c, l, b⟩ ++ zs (32 - 12) = imgL ⟨p, m, s, c, l, b⟩) := rfl
  generalize (⟨(leB m 1).toArray⟩ : ByteArray) = S1 at *
  generalize (⟨(leB s 2).toArray⟩ : ByteArray) = S2 at *
  generalize (⟨(leB c 2).toArray⟩ : ByteArray) = S3 at *
  generalize (⟨(leB l 4).toArray⟩ : ByteArray) = S4 at *
  rw [HF.out] at CE
  rw [imV]
  dsimp only
  cases b with
  | false =>
    go_enter Try.func24, Try.ntmps24
    go_wp2_with fail
    go_upto_region 4 with fail
    have h1 := (St.start w).alloc #[.int .i64 p, .int .i64 m, .int .i64 s, .int .i64 c, .int .i64 l, .bool false] 34
    generalize w.alloc (.cells #[.int .i64 p, .int .i64 m, .int .i64 s, .int .i64 c, .int .i64 l, .bool false] 34) = W1 at h1 ⊢
    refine wp_region_held_drew (S := (fun w' => St w w' [(w.heap.size, 34, #[.int .i64 p, .int .i64 m, .int .i64 s, .int .i64 c, .int .i64 l, .bool false])])) (by kernel_rfl) (h1.drew) (fun hHeld => ?_)
    refine wpAnyH_take (i := 0) (oi := ?o1) (v := ?v1) ?hi1 (by kernel_rfl) (by kernel_rfl) (by kernel_rfl) ?hq1 ?hy1 (by assumption) ?hr1
    case hi1 => (simp only [List.getElem?_toArray, List.getElem?_cons_zero]; rfl)
    case hy1 => ((refine .inl ⟨by rfl, ?_⟩); intro w hS; go_simp; (try with_reducible rfl))
    case hq1 => exact fun _ _ _ h => h
    (simp only [Act.put, List.setIfInBounds_toArray, List.set_cons_zero, List.set_cons_succ])
    refine wpAnyH_take (i := 1) (oi := ?o2) (v := ?v2) ?hi2 (by kernel_rfl) (by kernel_rfl) (by kernel_rfl) ?hq2 ?hy2 (by assumption) ?hr2
    case hi2 => (simp only [List.getElem?_toArray, List.getElem?_cons_succ, List.getElem?_cons_zero]; rfl)
    case hy2 => ((refine .inl ⟨by rfl, ?_⟩); intro w hS; go_simp; (try with_reducible rfl))
    case hq2 => exact fun _ _ _ h => h
    (simp only [Act.put, List.setIfInBounds_toArray, List.set_cons_zero, List.set_cons_succ])
    refine wpAnyH_take (i := 2) (oi := ?o3) (v := ?v3) ?hi3 (by kernel_rfl) (by kernel_rfl) (by kernel_rfl) ?hq3 ?hy3 (by assumption) ?hr3
    case hi3 => (simp only [List.getElem?_toArray, List.getElem?_cons_succ, List.getElem?_cons_zero]; rfl)
    case hy3 => ((refine .inl ⟨by rfl, ?_⟩); intro w hS; have q := (St.at hS (i := 0) rfl).cell; go_simp; (try with_reducible rfl))
    case hq3 => exact fun _ _ _ h => h
    (simp only [Act.put, List.setIfInBounds_toArray, List.set_cons_zero, List.set_cons_succ])
    refine wpAnyH_take (i := 4) (oi := ?o4) (v := ?v4) ?hi4 (by kernel_rfl) (by kernel_rfl) (by kernel_rfl) ?hq4 ?hy4 (by assumption) ?hr4
    case hi4 => (simp only [List.getElem?_toArray, List.getElem?_cons_succ, List.getElem?_cons_zero]; rfl)
    case hy4 => ((refine .inl ⟨by rfl, ?_⟩); intro w hS; go_simp; (try with_reducible rfl))
    case hq4 => exact fun _ _ _ h => h
    (simp only [Act.put, List.setIfInBounds_toArray, List.set_cons_zero, List.set_cons_succ])
    refine wpAnyH_take (i := 5) (oi := ?o5) (v := ?v5) ?hi5 (by kernel_rfl) (by kernel_rfl) (by kernel_rfl) ?hq5 ?hy5 (by assumption) ?hr5
    case hi5 => (simp only [List.getElem?_toArray, List.getElem?_cons_succ, List.getElem?_cons_zero]; rfl)
    case hy5 => ((refine .inl ⟨by rfl, ?_⟩); intro w hS; have q := (St.at hS (i := 0) rfl).cell; go_simp; (try with_reducible rfl))
    case hq5 => exact fun _ _ _ h => h
    (simp only [Act.put, List.setIfInBounds_toArray, List.set_cons_zero, List.set_cons_succ])
    refine wpAnyH_take (i := 7) (oi := ?o6) (v := ?v6) ?hi6 (by kernel_rfl) (by kernel_rfl) (by kernel_rfl) ?hq6 ?hy6 (by assumption) ?hr6
    case hi6 => (simp only [List.getElem?_toArray, List.getElem?_cons_succ, List.getElem?_cons_zero]; rfl)
    case hy6 => ((refine .inl ⟨by rfl, ?_⟩); intro w hS; go_simp; (try with_reducible rfl))
    case hq6 => exact fun _ _ _ h => h
    (simp only [Act.put, List.setIfInBounds_toArray, List.set_cons_zero, List.set_cons_succ])
    refine wpAnyH_take (i := 8) (oi := ?o7) (v := ?v7) ?hi7 (by kernel_rfl) (by kernel_rfl) (by kernel_rfl) ?hq7 ?hy7 (by assumption) ?hr7
    case hi7 => (simp only [List.getElem?_toArray, List.getElem?_cons_succ, List.getElem?_cons_zero]; rfl)
    case hy7 => ((refine .inl ⟨by rfl, ?_⟩); intro w hS; have q := (St.at hS (i := 0) rfl).cell; go_simp; (try with_reducible rfl))
    case hq7 => exact fun _ _ _ h => h
    (simp only [Act.put, List.setIfInBounds_toArray, List.set_cons_zero, List.set_cons_succ])
    refine wpAnyH_take (i := 10) (oi := ?o8) (v := ?v8) ?hi8 (by kernel_rfl) (by kernel_rfl) (by kernel_rfl) ?hq8 ?hy8 (by assumption) ?hr8
    case hi8 => (simp only [List.getElem?_toArray, List.getElem?_cons_succ, List.getElem?_cons_zero]; rfl)
    case hy8 => ((refine .inl ⟨by rfl, ?_⟩); intro w hS; go_simp; (try with_reducible rfl))
    case hq8 => exact fun _ _ _ h => h
    (simp only [Act.put, List.setIfInBounds_toArray, List.set_cons_zero, List.set_cons_succ])
    refine wpAnyH_take (i := 11) (oi := ?o9) (v := ?v9) ?hi9 (by kernel_rfl) (by kernel_rfl) (by kernel_rfl) ?hq9 ?hy9 (by assumption) ?hr9
    case hi9 => (simp only [List.getElem?_toArray, List.getElem?_cons_succ, List.getElem?_cons_zero]; rfl)
    case hy9 => ((refine .inl ⟨by rfl, ?_⟩); intro w hS; have q := (St.at hS (i := 0) rfl).cell; go_simp; (try with_reducible rfl))
    case hq9 => exact fun _ _ _ h => h
    (simp only [Act.put, List.setIfInBounds_toArray, List.set_cons_zero, List.set_cons_succ])
    refine wpAnyH_ready (rs := [3]) (by kernel_rfl) (by simp) ?_
    refine AllReadyH.cons rfl (fun K hK => ?_) AllReadyH.nil
    go_simp
    go_wp2_with ((go_at_call 26; refine (C1.out _).mono ?_; rintro e w2 ⟨rfl, hb2⟩))
    refine hK.out _ _ (St.call hb2 hHeld) (fun hHeld => ?_)
    clear hK K
    (try simp only [Act.put, List.setIfInBounds_toArray, List.set_cons_zero, List.set_cons_succ])
    refine wpAnyH_ready (rs := [6]) (by kernel_rfl) (by simp) ?_
    refine AllReadyH.cons rfl (fun K hK => ?_) AllReadyH.nil
    go_simp
    go_wp2_with ((go_at_call 26; refine (C2.out _).mono ?_; rintro e w3 ⟨rfl, hb3⟩))
    refine hK.out _ _ (St.call hb3 hHeld) (fun hHeld => ?_)
    clear hK K
    (try simp only [Act.put, List.setIfInBounds_toArray, List.set_cons_zero, List.set_cons_succ])
    refine wpAnyH_ready (rs := [9]) (by kernel_rfl) (by simp) ?_
    refine AllReadyH.cons rfl (fun K hK => ?_) AllReadyH.nil
    go_simp
    go_wp2_with ((go_at_call 26; refine (C3.out _).mono ?_; rintro e w4 ⟨rfl, hb4⟩))
    refine hK.out _ _ (St.call hb4 hHeld) (fun hHeld => ?_)
    clear hK K
    (try simp only [Act.put, List.setIfInBounds_toArray, List.set_cons_zero, List.set_cons_succ])
    refine wpAnyH_ready (rs := [12]) (by kernel_rfl) (by simp) ?_
    refine AllReadyH.cons rfl (fun K hK => ?_) AllReadyH.nil
    go_simp
    go_wp2_with ((go_at_call 26; refine (C4.out _).mono ?_; rintro e w5 ⟨rfl, hb5⟩))
    refine hK.out _ _ (St.call hb5 hHeld) (fun hHeld => ?_)
    clear hK K
    (try simp only [Act.put, List.setIfInBounds_toArray, List.set_cons_zero, List.set_cons_succ])
    refine wpAnyH_ready (rs := [13]) (by kernel_rfl) (by simp) ?_
    refine AllReadyH.cons rfl (fun K hK => ?_) AllReadyH.nil
    go_simp
    refine hK.out _ _ (St.other hHeld _) (fun hHeld => ?_)
    clear hK K
    (try simp only [Act.put, List.setIfInBounds_toArray, List.set_cons_zero, List.set_cons_succ])
    refine wpAnyH_ready (rs := [14]) (by kernel_rfl) (by simp) ?_
    refine AllReadyH.cons rfl (fun K hK => ?_) AllReadyH.nil
    go_simp
    go_wp2_with ((go_at_call 25; refine (CE.out _ _ (RowAt.new _ _ _)).mono ?_; rintro e w6 ⟨rfl, hb6⟩))
    refine hK.out _ _ (St.call hb6 hHeld) (fun hHeld => ?_)
    clear hK K
    (try simp only [Act.put, List.setIfInBounds_toArray, List.set_cons_zero, List.set_cons_succ])
    refine wpAnyH_take (i := 15) (oi := ?o10) (v := ?v10) ?hi10 (by kernel_rfl) (by kernel_rfl) (by kernel_rfl) ?hq10 ?hy10 (by assumption) ?hr10
    case hi10 => (simp only [List.getElem?_toArray, List.getElem?_cons_succ, List.getElem?_cons_zero]; rfl)
    case hy10 => ((refine .inl ⟨by rfl, ?_⟩); intro w hS; go_simp; (try with_reducible rfl))
    case hq10 => exact fun _ _ _ h => h
    (simp only [Act.put, List.setIfInBounds_toArray, List.set_cons_zero, List.set_cons_succ])
    refine wpAnyH_done (by kernel_rfl) ?_ _
    go_wp2_with fail
    go_ret
    exact ⟨rfl, hHeld.bel⟩
  | true =>
    go_enter Try.func24, Try.ntmps24
    go_wp2_with fail
    go_upto_region 4 with fail
    have h1 := (St.start w).alloc #[.int .i64 p, .int .i64 m, .int .i64 s, .int .i64 c, .int .i64 l, .bool true] 34
    generalize w.alloc (.cells #[.int .i64 p, .int .i64 m, .int .i64 s, .int .i64 c, .int .i64 l, .bool true] 34) = W1 at h1 ⊢
    refine wp_region_held_drew (S := (fun w' => St w w' [(w.heap.size, 34, #[.int .i64 p, .int .i64 m, .int .i64 s, .int .i64 c, .int .i64 l, .bool true])])) (by kernel_rfl) (h1.drew) (fun hHeld => ?_)
    refine wpAnyH_take (i := 0) (oi := ?o11) (v := ?v11) ?hi11 (by kernel_rfl) (by kernel_rfl) (by kernel_rfl) ?hq11 ?hy11 (by assumption) ?hr11
    case hi11 => (simp only [List.getElem?_toArray, List.getElem?_cons_zero]; rfl)
    case hy11 => ((refine .inl ⟨by rfl, ?_⟩); intro w hS; go_simp; (try with_reducible rfl))
    case hq11 => exact fun _ _ _ h => h
    (simp only [Act.put, List.setIfInBounds_toArray, List.set_cons_zero, List.set_cons_succ])
    refine wpAnyH_take (i := 1) (oi := ?o12) (v := ?v12) ?hi12 (by kernel_rfl) (by kernel_rfl) (by kernel_rfl) ?hq12 ?hy12 (by assumption) ?hr12
    case hi12 => (simp only [List.getElem?_toArray, List.getElem?_cons_succ, List.getElem?_cons_zero]; rfl)
    case hy12 => ((refine .inl ⟨by rfl, ?_⟩); intro w hS; go_simp; (try with_reducible rfl))
    case hq12 => exact fun _ _ _ h => h
    (simp only [Act.put, List.setIfInBounds_toArray, List.set_cons_zero, List.set_cons_succ])
    refine wpAnyH_take (i := 2) (oi := ?o13) (v := ?v13) ?hi13 (by kernel_rfl) (by kernel_rfl) (by kernel_rfl) ?hq13 ?hy13 (by assumption) ?hr13
    case hi13 => (simp only [List.getElem?_toArray, List.getElem?_cons_succ, List.getElem?_cons_zero]; rfl)
    case hy13 => ((refine .inl ⟨by rfl, ?_⟩); intro w hS; have q := (St.at hS (i := 0) rfl).cell; go_simp; (try with_reducible rfl))
    case hq13 => exact fun _ _ _ h => h
    (simp only [Act.put, List.setIfInBounds_toArray, List.set_cons_zero, List.set_cons_succ])
    refine wpAnyH_take (i := 4) (oi := ?o14) (v := ?v14) ?hi14 (by kernel_rfl) (by kernel_rfl) (by kernel_rfl) ?hq14 ?hy14 (by assumption) ?hr14
    case hi14 => (simp only [List.getElem?_toArray, List.getElem?_cons_succ, List.getElem?_cons_zero]; rfl)
    case hy14 => ((refine .inl ⟨by rfl, ?_⟩); intro w hS; go_simp; (try with_reducible rfl))
    case hq14 => exact fun _ _ _ h => h
    (simp only [Act.put, List.setIfInBounds_toArray, List.set_cons_zero, List.set_cons_succ])
    refine wpAnyH_take (i := 5) (oi := ?o15) (v := ?v15) ?hi15 (by kernel_rfl) (by kernel_rfl) (by kernel_rfl) ?hq15 ?hy15 (by assumption) ?hr15
    case hi15 => (simp only [List.getElem?_toArray, List.getElem?_cons_succ, List.getElem?_cons_zero]; rfl)
    case hy15 => ((refine .inl ⟨by rfl, ?_⟩); intro w hS; have q := (St.at hS (i := 0) rfl).cell; go_simp; (try with_reducible rfl))
    case hq15 => exact fun _ _ _ h => h
    (simp only [Act.put, List.setIfInBounds_toArray, List.set_cons_zero, List.set_cons_succ])
    refine wpAnyH_take (i := 7) (oi := ?o16) (v := ?v16) ?hi16 (by kernel_rfl) (by kernel_rfl) (by kernel_rfl) ?hq16 ?hy16 (by assumption) ?hr16
    case hi16 => (simp only [List.getElem?_toArray, List.getElem?_cons_succ, List.getElem?_cons_zero]; rfl)
    case hy16 => ((refine .inl ⟨by rfl, ?_⟩); intro w hS; go_simp; (try with_reducible rfl))
    case hq16 => exact fun _ _ _ h => h
    (simp only [Act.put, List.setIfInBounds_toArray, List.set_cons_zero, List.set_cons_succ])
    refine wpAnyH_take (i := 8) (oi := ?o17) (v := ?v17) ?hi17 (by kernel_rfl) (by kernel_rfl) (by kernel_rfl) ?hq17 ?hy17 (by assumption) ?hr17
    case hi17 => (simp only [List.getElem?_toArray, List.getElem?_cons_succ, List.getElem?_cons_zero]; rfl)
    case hy17 => ((refine .inl ⟨by rfl, ?_⟩); intro w hS; have q := (St.at hS (i := 0) rfl).cell; go_simp; (try with_reducible rfl))
    case hq17 => exact fun _ _ _ h => h
    (simp only [Act.put, List.setIfInBounds_toArray, List.set_cons_zero, List.set_cons_succ])
    refine wpAnyH_take (i := 10) (oi := ?o18) (v := ?v18) ?hi18 (by kernel_rfl) (by kernel_rfl) (by kernel_rfl) ?hq18 ?hy18 (by assumption) ?hr18
    case hi18 => (simp only [List.getElem?_toArray, List.getElem?_cons_succ, List.getElem?_cons_zero]; rfl)
    case hy18 => ((refine .inl ⟨by rfl, ?_⟩); intro w hS; go_simp; (try with_reducible rfl))
    case hq18 => exact fun _ _ _ h => h
    (simp only [Act.put, List.setIfInBounds_toArray, List.set_cons_zero, List.set_cons_succ])
    refine wpAnyH_take (i := 11) (oi := ?o19) (v := ?v19) ?hi19 (by kernel_rfl) (by kernel_rfl) (by kernel_rfl) ?hq19 ?hy19 (by assumption) ?hr19
    case hi19 => (simp only [List.getElem?_toArray, List.getElem?_cons_succ, List.getElem?_cons_zero]; rfl)
    case hy19 => ((refine .inl ⟨by rfl, ?_⟩); intro w hS; have q := (St.at hS (i := 0) rfl).cell; go_simp; (try with_reducible rfl))
    case hq19 => exact fun _ _ _ h => h
    (simp only [Act.put, List.setIfInBounds_toArray, List.set_cons_zero, List.set_cons_succ])
    refine wpAnyH_ready (rs := [3]) (by kernel_rfl) (by simp) ?_
    refine AllReadyH.cons rfl (fun K hK => ?_) AllReadyH.nil
    go_simp
    go_wp2_with ((go_at_call 26; refine (C1.out _).mono ?_; rintro e w2 ⟨rfl, hb2⟩))
    refine hK.out _ _ (St.call hb2 hHeld) (fun hHeld => ?_)
    clear hK K
    (try simp only [Act.put, List.setIfInBounds_toArray, List.set_cons_zero, List.set_cons_succ])
    refine wpAnyH_ready (rs := [6]) (by kernel_rfl) (by simp) ?_
    refine AllReadyH.cons rfl (fun K hK => ?_) AllReadyH.nil
    go_simp
    go_wp2_with ((go_at_call 26; refine (C2.out _).mono ?_; rintro e w3 ⟨rfl, hb3⟩))
    refine hK.out _ _ (St.call hb3 hHeld) (fun hHeld => ?_)
    clear hK K
    (try simp only [Act.put, List.setIfInBounds_toArray, List.set_cons_zero, List.set_cons_succ])
    refine wpAnyH_ready (rs := [9]) (by kernel_rfl) (by simp) ?_
    refine AllReadyH.cons rfl (fun K hK => ?_) AllReadyH.nil
    go_simp
    go_wp2_with ((go_at_call 26; refine (C3.out _).mono ?_; rintro e w4 ⟨rfl, hb4⟩))
    refine hK.out _ _ (St.call hb4 hHeld) (fun hHeld => ?_)
    clear hK K
    (try simp only [Act.put, List.setIfInBounds_toArray, List.set_cons_zero, List.set_cons_succ])
    refine wpAnyH_ready (rs := [12]) (by kernel_rfl) (by simp) ?_
    refine AllReadyH.cons rfl (fun K hK => ?_) AllReadyH.nil
    go_simp
    go_wp2_with ((go_at_call 26; refine (C4.out _).mono ?_; rintro e w5 ⟨rfl, hb5⟩))
    refine hK.out _ _ (St.call hb5 hHeld) (fun hHeld => ?_)
    clear hK K
    (try simp only [Act.put, List.setIfInBounds_toArray, List.set_cons_zero, List.set_cons_succ])
    refine wpAnyH_ready (rs := [13]) (by kernel_rfl) (by simp) ?_
    refine AllReadyH.cons rfl (fun K hK => ?_) AllReadyH.nil
    go_simp
    refine hK.out _ _ (St.other hHeld _) (fun hHeld => ?_)
    clear hK K
    (try simp only [Act.put, List.setIfInBounds_toArray, List.set_cons_zero, List.set_cons_succ])
    refine wpAnyH_ready (rs := [14]) (by kernel_rfl) (by simp) ?_
    refine AllReadyH.cons rfl (fun K hK => ?_) AllReadyH.nil
    go_simp
    go_wp2_with ((go_at_call 25; refine (CE.out _ _ (RowAt.new _ _ _)).mono ?_; rintro e w6 ⟨rfl, hb6⟩))
    refine hK.out _ _ (St.call hb6 hHeld) (fun hHeld => ?_)
    clear hK K
    (try simp only [Act.put, List.setIfInBounds_toArray, List.set_cons_zero, List.set_cons_succ])
    refine wpAnyH_take (i := 15) (oi := ?o20) (v := ?v20) ?hi20 (by kernel_rfl) (by kernel_rfl) (by kernel_rfl) ?hq20 ?hy20 (by assumption) ?hr20
    case hi20 => (simp only [List.getElem?_toArray, List.getElem?_cons_succ, List.getElem?_cons_zero]; rfl)
    case hy20 => ((refine .inl ⟨by rfl, ?_⟩); intro w hS; go_simp; (try with_reducible rfl))
    case hq20 => exact fun _ _ _ h => h
    (simp only [Act.put, List.setIfInBounds_toArray, List.set_cons_zero, List.set_cons_succ])
    refine wpAnyH_done (by kernel_rfl) ?_ _
    go_wp2_with fail
    go_ret
    exact ⟨rfl, hHeld.bel⟩
end Go.Proofs.Ytjlppndlgdgekaa
