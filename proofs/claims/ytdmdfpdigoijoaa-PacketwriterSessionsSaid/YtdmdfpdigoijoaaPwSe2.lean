/-
  Chapter 52: sessions: SameDisc of equal discs, ContainsFunc, Closes of the reference.
-/
import Derived.Test.YtdmdfpdigoijoaaPwSe1
namespace Go.Proofs.Ytdmdfpdigoijoaa
open Go.RowKit
set_option linter.unusedVariables false

set_option maxHeartbeats 2000000 in
theorem samedisc_same (A A' A2 A2' : Option Addr) (c c' c2 c2' : Nat) (img : Img) (S : List Ses) (w : World) (h : SlAt w w.heap.size A (strV img)) (h' : SlAt w w.heap.size A' (strV img)) (h2 : SlAt w w.heap.size A2 (flat encSe S)) (h2' : SlAt w w.heap.size A2' (flat encSe S)) (hi : img.length ≤ 1000000) (hl : S.length ≤ 1000000) :
    Calls Try.prog 33 #[.agg #[.slice A img.length c, .slice A2 S.length c2], .agg #[.slice A' img.length c', .slice A2' S.length c2']] w fun e w' => e = .returned (.bool true) ∧ Below w.heap.size w w' := by
  have CI := Lib.hid (fun w h h' => sameimg_same A A' c c' img w h h' hi)
  have HI := Lib.hid h
  have HI' := Lib.hid h'
  have HS := Lib.hid h2
  have HS' := Lib.hid h2'
  obtain ⟨m, hm⟩ : ∃ m, img.length = m := ⟨_, rfl⟩
  obtain ⟨n, hn⟩ : ∃ n, S.length = n := ⟨_, rfl⟩
  have HN := Lib.hid hn
  rw [hm] at CI ⊢
  rw [hn] at hl ⊢
  clear h h' h2 h2' hn hm
  have hSt := ((St.start w).new (g := w.heap.size) rfl #[.slice A m c, .slice A2 n c2] 55).new (g := w.heap.size + 1) (by simp) #[.slice A' m c', .slice A2' n c2'] 55
  have HSt := Lib.hid hSt
  clear hSt
  go_enter Try.func33, Try.ntmps33
  have q1 := (HSt.out.at (i := 0) rfl).cell
  have q0 := (HSt.out.at (i := 1) rfl).cell
  go_wp2_with fail
  generalize (w.alloc (.cells #[.slice A m c, .slice A2 n c2] 55)).alloc (.cells #[.slice A' m c', .slice A2' n c2'] 55) = W at *
  refine (CI.out _ ((HI.out.below HSt.out.bel).mono HSt.out.bel.size) ((HI'.out.below HSt.out.bel).mono HSt.out.bel.size)).mono ?_
  rintro e w1 ⟨rfl, hb1⟩
  have H1 := Lib.hid (St.call hb1 HSt.out)
  clear q1 q0 hb1
  have q1 := (H1.out.at (i := 0) rfl).cell
  have q0 := (H1.out.at (i := 1) rfl).cell
  go_wp2_with fail
  clear q1 q0
  go_loopw [5] (fun i wr => ∃ k : Nat, k ≤ n ∧ i = .int .i64 k ∧ St w wr [(w.heap.size + 1, 55, #[.slice A' m c', .slice A2' n c2']), (w.heap.size, 55, #[.slice A m c, .slice A2 n c2])]) (fun i _ => n - (intOf i).toNat)
  case atStart => exact ⟨0, by omega, rfl, H1.out⟩
  case round =>
    obtain ⟨k, hk, rfl, hst⟩ := hrel
    have q1 := (hst.at (i := 0) rfl).cell
    have q0 := (hst.at (i := 1) rfl).cell
    by_cases hlt : k < n
    · obtain ⟨s, hs⟩ : ∃ s, S[k]? = some s := ⟨S[k]'(by rw [HN.out]; exact hlt), List.getElem?_eq_getElem _⟩
      obtain ⟨b, off, hA, hbk⟩ := ses_addr HS.out (by rw [HN.out]; omega)
      obtain ⟨b', off', hA', hbk'⟩ := ses_addr HS'.out (by rw [HN.out]; omega)
      subst hA hA'
      obtain ⟨p0, p1, p2⟩ := ses_cells (HS.out.below hst.bel) rfl hs
      obtain ⟨r0, r1, r2⟩ := ses_cells (HS'.out.below hst.bel) rfl hs
      have hltI : (k : Int) < (n : Int) := by omega
      have h0k : (0 : Int) ≤ (k : Int) := by omega
      have HST := Lib.hid hst
      clear hs hst
      go_wp2_with fail
      go_quiet (fail)
      go_wp2_with fail
      go_roundw
      case rel => first | exact ⟨k + 1, by omega, by go_num, HST.out.drewN _⟩ | exact ⟨_, ⟨k + 1, by omega, by simp, HST.out.drewN _⟩, rfl⟩ | exact ⟨_, _, ⟨k + 1, by omega, by simp, HST.out.drewN _⟩, rfl, rfl⟩ | exact ⟨_, _, _, ⟨k + 1, by omega, by simp, HST.out.drewN _⟩, rfl, rfl, rfl⟩
      case measure => simp [intOf]; omega
    · have hge : ¬ (k : Int) < (n : Int) := by omega
      go_wp2_with fail
      go_ret
      exact ⟨rfl, hst.bel⟩
theorem sclose_any (x : Wr) (w : World) : Calls Try.prog 35 #[.agg #[.int .i64 x.pos, .slice x.A x.bl.length x.cap, .bool x.sync, .bool x.close]] w fun e w' => e = .returned (.bool x.close) ∧ Below w.heap.size w w' := by
  go_enter Try.func35, Try.ntmps35
  go_wp2_with fail
  go_ret
  exact ⟨rfl, (Below.refl _ _).alloc (Nat.le_refl _) _⟩
theorem any_snoc {α : Type} {p : α → Bool} {l : List α} {k : Nat} {x : α} (h : l[k]? = some x) : (l.take (k + 1)).any p = ((l.take k).any p || p x) := by
  rw [List.take_add_one, h, Option.toList_some, List.any_append]
  simp
theorem any_yes {α : Type} {p : α → Bool} {l : List α} {k : Nat} {x : α} (h : l[k]? = some x) (hp : p x = true) : l.any p = true := List.any_eq_true.2 ⟨x, List.mem_of_getElem? h, hp⟩
set_option maxHeartbeats 1000000 in
theorem sindex_any (A : Option Addr) (c : Nat) (ws : List Wr) (w : World) (h : WrAt w w.heap.size A ws) (hm : ws.length ≤ 1000000) :
    Calls Try.prog 68 #[.slice A ws.length c, .func (.func 35) #[] #[]] w fun e w' => (∃ i : Int, e = .returned (.int .i64 i) ∧ decide (0 ≤ i) = ws.any (·.close)) ∧ Below w.heap.size w w' := by
  have HW := Lib.hid h
  obtain ⟨n, hn⟩ : ∃ n, ws.length = n := ⟨_, rfl⟩
  have HN := Lib.hid hn
  rw [hn] at hm ⊢
  clear h hn
  go_enter Try.func68, Try.ntmps68
  go_wp2_with fail
  go_loopw [8] (fun i wr => ∃ k : Nat, k ≤ n ∧ i = .int .i64 k ∧ Hid ((ws.take k).any (·.close) = false) ∧ Below w.heap.size w wr) (fun i _ => n - (intOf i).toNat)
  case atStart => exact ⟨0, by omega, rfl, Lib.hid (by simp), Below.refl _ _⟩
  case round =>
    obtain ⟨k, hk, rfl, HS, hbel⟩ := hrel
    by_cases hlt : k < n
    · obtain ⟨x, hx⟩ : ∃ x, ws[k]? = some x := ⟨ws[k]'(by rw [HN.out]; exact hlt), List.getElem?_eq_getElem _⟩
      obtain ⟨b, off, hA, hbk⟩ := HW.out.one (by rw [HN.out]; omega)
      subst hA
      obtain ⟨p0, p1, p2, p3⟩ := (HW.out.below hbel).cells rfl hx
      have hltI : (k : Int) < (n : Int) := by omega
      have h0k : (0 : Int) ≤ (k : Int) := by omega
      have HS1 := Lib.hid (any_snoc (p := fun x : Wr => x.close) hx)
      have HYES := Lib.hid (fun hp => any_yes (p := fun x : Wr => x.close) hx hp)
      have C := Lib.hid (fun w => sclose_any x w)
      obtain ⟨xp, xA, xc, xb, xs, xcl⟩ := x
      dsimp only at p0 p1 p2 p3 HS1 HYES C
      clear hx
      cases xcl with
      | true =>
        go_wp2_with fail
        refine (C.out _).mono ?_
        rintro e w1 ⟨rfl, hb1⟩
        go_wp2_with fail
        go_ret
        exact ⟨⟨(k : Int), rfl, by rw [HYES.out (by first | rfl | trivial)]; exact decide_eq_true (by omega)⟩, hbel.trans (hb1.mono hbel.size)⟩
      | false =>
        go_wp2_with fail
        refine (C.out _).mono ?_
        rintro e w1 ⟨rfl, hb1⟩
        go_wp2_with fail
        go_roundw
        case rel => exact ⟨k + 1, by omega, by go_num, Lib.hid (by rw [HS1.out, HS.out]; rfl), hbel.trans (hb1.mono hbel.size)⟩
        case measure => simp [intOf]; omega
    · obtain rfl : k = n := by omega
      have hge : ¬ (k : Int) < (k : Int) := by omega
      have HS1 : Hid (ws.any (·.close) = false) := Lib.hid (by have := HS.out; rwa [List.take_of_length_le (by rw [HN.out]; omega)] at this)
      go_wp2_with fail
      go_ret
      exact ⟨⟨-1, rfl, by rw [HS1.out]; rfl⟩, hbel⟩
theorem scontains_any (A : Option Addr) (c : Nat) (ws : List Wr) (w : World) (h : WrAt w w.heap.size A ws) (hm : ws.length ≤ 1000000) :
    Calls Try.prog 34 #[.slice A ws.length c, .func (.func 35) #[] #[]] w fun e w' => e = .returned (.bool (ws.any (·.close))) ∧ Below w.heap.size w w' := by
  have C := Lib.hid (sindex_any A c ws w h hm)
  generalize ws.length = n at *
  clear h
  go_enter Try.func34, Try.ntmps34
  go_wp2_with fail
  refine C.out.mono ?_
  rintro e w' ⟨⟨i, rfl, hi⟩, hb⟩
  have HI := Lib.hid hi
  clear hi
  go_wp2_with fail
  go_ret
  exact ⟨ret_bool (by rw [← HI.out]), hb⟩

/-- The number of the first k steps that close. -/
def clK (steps : List Stp) : Nat → Nat
  | 0 => 0
  | k + 1 => match steps[k]? with
    | some s => if s.cl then clK steps k + 1 else clK steps k
    | none => clK steps k
theorem clK_succ {steps : List Stp} {k : Nat} {s : Stp} (h : steps[k]? = some s) : clK steps (k + 1) = if s.cl then clK steps k + 1 else clK steps k := by
  show (match steps[k]? with | some s => _ | none => _) = _
  rw [h]
def iterS (st ct : Int) (S : List Ses) : Nat → List Ses
  | 0 => S
  | k + 1 => sesStep st ct (iterS st ct S k)
theorem sesK_iter (st ct : Int) (steps : List Stp) (S : List Ses) : ∀ k, sesK st ct steps S k = iterS st ct S (clK steps k)
  | 0 => rfl
  | k + 1 => by
    have ih := sesK_iter st ct steps S k
    cases hs : steps[k]? with
    | none => unfold sesK clK; rw [hs]; exact ih
    | some s =>
      rw [sesK_succ hs, clK_succ hs, ih]
      split <;> rfl
theorem clK_le (steps : List Stp) : ∀ k, clK steps k ≤ k
  | 0 => Nat.le_refl _
  | k + 1 => by
    have ih := clK_le steps k
    cases hs : steps[k]? with
    | none => unfold clK; rw [hs]; dsimp only; omega
    | some s => rw [clK_succ hs]; split <;> omega
theorem clK_flat {steps : List Stp} {T L : Nat} (h : ∀ i, i < L → ∃ s, steps[T + i]? = some s ∧ s.cl = false) : ∀ i, i ≤ L → clK steps (T + i) = clK steps T
  | 0, _ => rfl
  | i + 1, hi => by
    obtain ⟨s, hs, hc⟩ := h i (by omega)
    rw [← Nat.add_assoc, clK_succ hs, hc]
    exact clK_flat h i (by omega)
set_option maxHeartbeats 1000000 in
theorem rcloses_any (A : Option Addr) (c : Nat) (ws : List Wr) (N : Nat) (w : World) (h : WrAt w w.heap.size A ws) (hl : ws.length ≤ 1000) (hb : ∀ x ∈ ws, x.bl.length ≤ 10000) (hok : ws.all wrOk = true) (hN : N ≤ nSt ws) (hN2 : nSt ws ≤ 1000000) :
    Calls Try.prog 67 #[.slice A ws.length c, .int .i64 (N : Int)] w fun e w' => e = .returned (.int .i64 (clK (stepsL ws) N : Int)) ∧ w = w' := by
  have HW := Lib.hid h
  have HB := Lib.hid hb
  have HOK := Lib.hid hok
  have HNN := Lib.hid hN
  have HTL : Hid (∀ k, nSt (ws.take k) ≤ 1000000) := Lib.hid (fun k => Nat.le_trans (nSt_le ws k) hN2)
  obtain ⟨n, hn⟩ : ∃ n, ws.length = n := ⟨_, rfl⟩
  have HN := Lib.hid hn
  have hN6 : N ≤ 1000000 := by omega
  rw [hn] at hl ⊢
  clear h hb hn hok hN
  go_enter Try.func67, Try.ntmps67
  go_wp2_with fail
  go_loop [1, 5, 6] (fun nv t i => ∃ (k T o : Nat), k ≤ n ∧ i = .int .i64 k ∧ t = .int .i64 o ∧ nv = .int .i64 ((N : Int) - (T : Int)) ∧ Hid (T = nSt (ws.take k)) ∧ Hid (o = clK (stepsL ws) (min T N)) ∧ o ≤ N ∧ T ≤ 1000000) (fun _ _ i => n - (intOf i).toNat)
  case atStart => exact ⟨0, 0, 0, by omega, rfl, rfl, by simp, Lib.hid (by simp [nSt, stepsL]), Lib.hid (by simp [clK]), by omega, by omega⟩
  case round =>
    obtain ⟨k, T, o, hk, rfl, rfl, rfl, HT, HO, ho, hT6⟩ := hrel
    by_cases hlt : k < n
    · have hltI : (k : Int) < (n : Int) := by omega
      by_cases hTN : T < N
      · have hTNI : (0 : Int) < (N : Int) - (T : Int) := by omega
        obtain ⟨x, hx⟩ : ∃ x, ws[k]? = some x := ⟨ws[k]'(by rw [HN.out]; exact hlt), List.getElem?_eq_getElem _⟩
        obtain ⟨b, off, hA, hbk⟩ := HW.out.one (by rw [HN.out]; omega)
        subst hA
        obtain ⟨p0, p1, p2, p3⟩ := HW.out.cells rfl hx
        have hxl := HB.out x (List.mem_of_getElem? hx)
        have HST := Lib.hid (nSt_take hx)
        have HTK := HTL.out (k + 1)
        rw [HST.out, ← HT.out] at HTK
        have HAT : Hid (∀ i, i < x.bl.length → ∃ s, (stepsL ws)[T + i]? = some s ∧ s.cl = false) := Lib.hid (fun i hi => ⟨_, by rw [HT.out]; exact steps_at hx hi, rfl⟩)
        have HCL : Hid (x.close = true → (stepsL ws)[T + x.bl.length]? = some ⟨0, blankS, true⟩) := Lib.hid (fun hc => by rw [HT.out]; exact steps_close hx hc)
        obtain ⟨_, _, hw2⟩ := wrOk_parts (List.all_eq_true.1 HOK.out x (List.mem_of_getElem? hx))
        have h0k : (0 : Int) ≤ (k : Int) := by omega
        obtain ⟨xp, xA, xc, xb, xs, xcl⟩ := x
        dsimp only at p0 p1 p2 p3 hxl HST HTK HAT HCL hw2
        obtain ⟨lb, hlb⟩ : ∃ lb, xb.length = lb := ⟨_, rfl⟩
        rw [hlb] at p1 hxl HST HTK HAT HCL hw2
        clear hx hlb
        cases xcl with
        | true =>
          obtain rfl : lb = 0 := hw2 rfl
          have HO2 : Hid (o + 1 = clK (stepsL ws) (min (T + 1) N)) := Lib.hid (by
            rw [Nat.min_eq_left (by omega), clK_succ (show (stepsL ws)[T]? = some ⟨0, blankS, true⟩ from HCL.out (by first | rfl | trivial))]
            have := HO.out
            rw [Nat.min_eq_left (by omega)] at this
            rw [← this]
            rfl)
          have HT2 : Hid (T + 1 = nSt (ws.take (k + 1))) := Lib.hid (by rw [HST.out, ← HT.out]; rfl)
          have ho2 : o + 1 ≤ N := by
            rw [HO2.out, Nat.min_eq_left (by omega)]
            have := clK_le (stepsL ws) (T + 1)
            omega
          go_wp2_with fail
          go_round
          case rel => exact ⟨k + 1, T + 1, o + 1, by omega, by go_num, by go_num, by simp; omega, HT2, HO2, ho2, by simp at HTK; omega⟩
          case measure => simp [intOf]; omega
        | false =>
          have HO2 : Hid (o = clK (stepsL ws) (min (T + lb) N)) := Lib.hid (by
            have h1 := HO.out
            rw [Nat.min_eq_left (by omega)] at h1
            rw [h1]
            rcases Nat.le_total (T + lb) N with h2 | h2
            · rw [Nat.min_eq_left h2]; exact (clK_flat HAT.out lb (Nat.le_refl _)).symm
            · rw [Nat.min_eq_right h2, show N = T + (N - T) by omega]; exact (clK_flat HAT.out (N - T) (by omega)).symm)
          have HT2 : Hid (T + lb = nSt (ws.take (k + 1))) := Lib.hid (by rw [HST.out, ← HT.out]; rfl)
          go_wp2_with fail
          go_round
          case rel => exact ⟨k + 1, T + lb, o, by omega, by go_num, rfl, by simp; omega, HT2, HO2, ho, by simp at HTK; omega⟩
          case measure => simp [intOf]; omega
      · have hTNI : ¬ (0 : Int) < (N : Int) - (T : Int) := by omega
        have HE : Hid (o = clK (stepsL ws) N) := Lib.hid (by have := HO.out; rwa [Nat.min_eq_right (by omega)] at this)
        go_wp2_with fail
        go_ret
        exact ⟨ret_int (by rw [← HE.out]), rfl⟩
    · have hkn : k = n := by omega
      subst hkn
      have hge : ¬ (k : Int) < (k : Int) := by omega
      have HE : Hid (o = clK (stepsL ws) N) := Lib.hid (by
        have h1 := HT.out
        rw [List.take_of_length_le (by rw [HN.out]; exact Nat.le_refl _)] at h1
        have := HO.out
        rwa [Nat.min_eq_right (by have := HNN.out; omega)] at this)
      go_wp2_with fail
      go_ret
      exact ⟨ret_int (by rw [← HE.out]), rfl⟩
end Go.Proofs.Ytdmdfpdigoijoaa
