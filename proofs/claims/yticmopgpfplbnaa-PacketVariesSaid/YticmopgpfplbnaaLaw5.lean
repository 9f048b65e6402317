/-
  The walk of the law PacketVaries.
-/
import Derived.Test.YticmopgpfplbnaaVar2
import Derived.Test.YticmopgpfplbnaaLaw3
import Derived.Test.YticmopgpfplbnaaArgs
namespace Go.Proofs.Yticmopgpfplbnaa
open Go.RowKit
set_option linter.unusedVariables false

theorem varF_rep (m : Nat) (s i x : Int) (hs : 1 ≤ s) (hx : 0 ≤ x) :
    varF (List.replicate m s) i x = if x < (m : Int) * (s + 7) then some (i + x / (s + 7), s, x % (s + 7)) else none := by
  induction m generalizing i x with
  | zero =>
    rw [if_neg (by simp; omega)]
    rfl
  | succ m ih =>
    rw [List.replicate_succ, varF]
    have hm : ((m + 1 : Nat) : Int) * (s + 7) = (m : Int) * (s + 7) + (s + 7) := by rw [Int.natCast_add, Int.add_mul]; simp
    rw [hm]
    have hp : 0 ≤ (m : Int) * (s + 7) := Int.mul_nonneg (by omega) (by omega)
    by_cases h : x < s + 7
    · rw [if_pos h, if_pos (by omega), Int.ediv_eq_zero_of_lt hx h, Int.emod_eq_of_lt hx h, Int.add_zero]
    · rw [if_neg h, ih _ _ (by omega)]
      have e1 : x - s - 7 = x - (s + 7) := by omega
      have e2 : (x - (s + 7)) / (s + 7) = x / (s + 7) - 1 := by
        have := Int.add_mul_ediv_right x (-1) (show s + 7 ≠ 0 by omega)
        rw [show x + -1 * (s + 7) = x - (s + 7) by omega] at this
        omega
      have e3 : (x - (s + 7)) % (s + 7) = x % (s + 7) := Int.sub_emod_right x (s + 7)
      rw [e1, e2, e3, show i + 1 + (x / (s + 7) - 1) = i + x / (s + 7) by omega]
      by_cases h2 : x < (m : Int) * (s + 7) + (s + 7)
      · rw [if_pos h2, if_pos (by omega)]
      · rw [if_neg h2, if_neg (by omega)]
theorem rep_good {m : Nat} {s : Int} (h1 : 1 ≤ m) (h2 : m ≤ 1024) (hs1 : 1 ≤ s) (hs2 : s ≤ 1024) : varBad (List.replicate m s) = false :=
  varBad_no (by rw [List.length_replicate]; omega) (by rw [List.length_replicate]; omega) fun k z hk => by
    rw [List.getElem?_replicate] at hk
    split at hk
    · injection hk with hk
      subst hk
      exact sizedB_of hs1 hs2
    · cases hk
theorem varR_out {m : Nat} {s x : Int} (h1 : 1 ≤ m) (h2 : m ≤ 1024) (hs1 : 1 ≤ s) (hs2 : s ≤ 1024) (h : x < 0 ∨ (m : Int) * (s + 7) ≤ x) : varR (List.replicate m s) x = (zeroPS, 2) := by
  by_cases hx : x < 0
  · exact varR_neg (rep_good h1 h2 hs1 hs2) hx
  · exact varR_none (rep_good h1 h2 hs1 hs2) (by omega) (by rw [varF_rep _ _ _ _ hs1 (by omega), if_neg (by omega)])
theorem varR_at {m : Nat} {s x : Int} (h1 : 1 ≤ m) (h2 : m ≤ 1024) (hs1 : 1 ≤ s) (hs2 : s ≤ 1024) (hx : 0 ≤ x) (h : x < (m : Int) * (s + 7)) : varR (List.replicate m s) x = (placeV (x / (s + 7)) s (x % (s + 7)), 0) :=
  varR_some (rep_good h1 h2 hs1 hs2) hx (by rw [varF_rep _ _ _ _ hs1 hx, if_pos h, Int.zero_add])
theorem varR_agg (zs : List Int) (x : Int) : ∃ a b c : Int, (varR zs x).1 = .agg #[.int .i64 a, .int .i64 b, .int .i64 c] := by
  unfold varR
  split
  · exact ⟨0, 0, 0, rfl⟩
  · split
    · exact ⟨0, 0, 0, rfl⟩
    · split
      · exact ⟨_, _, _, rfl⟩
      · exact ⟨0, 0, 0, rfl⟩

theorem variable_any (A : Option Addr) (c : Nat) (zs : List Int) (x : Int) (w : World) (hz : ∀ (k : Nat) z, zs[k]? = some z → -9223372036854775808 ≤ z ∧ z ≤ 9223372036854775807)
    (hx0 : -9223372036854775808 ≤ x) (hx1 : x ≤ 9223372036854775807) (hs : SlAt w w.heap.size A (zs.map (Value.int .i64))) :
    Calls Try.prog 17 #[.slice A zs.length c, .int .i64 x] w fun e w' => e = .returned (.tuple #[(varR zs x).1, .int .i64 (varR zs x).2]) ∧ Below w.heap.size w w' := by
  by_cases h : zs.length = 0 ∨ 1024 < zs.length
  · rw [varR_bad (by unfold varBad; rw [decide_eq_true h]; rfl)]
    exact variable_len A _ c x w h
  · exact variable_in A c zs x w (by omega) (by omega) hz hx0 hx1 hs
theorem rvariable_any (A : Option Addr) (c : Nat) (zs : List Int) (x : Int) (w : World) (hz : ∀ (k : Nat) z, zs[k]? = some z → -9223372036854775808 ≤ z ∧ z ≤ 9223372036854775807)
    (hx0 : -9223372036854775808 ≤ x) (hx1 : x ≤ 9223372036854775807) (hs : SlAt w w.heap.size A (zs.map (Value.int .i64))) :
    Calls Try.prog 18 #[.slice A zs.length c, .int .i64 x] w fun e w' => e = .returned (.tuple #[(varR zs x).1, .int .i64 (varR zs x).2]) ∧ Below w.heap.size w w' := by
  by_cases h : zs.length = 0 ∨ 1024 < zs.length
  · rw [varR_bad (by unfold varBad; rw [decide_eq_true h]; rfl)]
    exact rvariable_len A _ c x w h
  · exact rvariable_in A c zs x w (by omega) (by omega) hz hx0 hx1 hs

theorem info_int : (Try.prog.info? 3).map (fun i => (i.zero, i.size, i.bytes)) = some (some (.int .i64 0), 1, 8) := by kernel_rfl

theorem varies_skip (A : Option Addr) (n c : Nat) (x s q : Int) (w : World) (h1 : 40 < n) (h2 : n ≤ 1024) :
    Calls Try.prog 7 #[.slice A n c, .int .i64 x, .int .u8 s, .int .u8 q] w fun e w' => e = .returned (.bool true) ∧ Below w.heap.size w w' := by
  have h1' : (40 : Int) < (n : Int) := by omega
  have h2' : (n : Int) ≤ 1024 := by omega
  go_enter Try.func7, Try.ntmps7
  go_wp2_with fail
  refine (awake_any _).mono ?_
  rintro e w1 ⟨rfl, hb1⟩
  go_wp2_with fail
  go_ret
  exact ⟨rfl, hb1⟩

set_option maxHeartbeats 4000000 in
theorem varies_go (A : Option Addr) (c : Nat) (zs : List Int) (x s q : Int) (w : World) (h1 : ¬ (40 < zs.length ∧ zs.length ≤ 1024)) (hl : zs.length ≤ 9223372036854775807) (hz : ∀ (k : Nat) z, zs[k]? = some z → -9223372036854775808 ≤ z ∧ z ≤ 9223372036854775807)
    (hx0 : -9223372036854775808 ≤ x) (hx1 : x ≤ 9223372036854775807) (hs0 : 0 ≤ s) (hs1 : s ≤ 255) (hq0 : 0 ≤ q) (hq1 : q ≤ 255) (hs : SlAt w w.heap.size A (zs.map (Value.int .i64))) :
    Calls Try.prog 7 #[.slice A zs.length c, .int .i64 x, .int .u8 s, .int .u8 q] w fun e w' => e = .returned (.bool true) ∧ Below w.heap.size w w' := by
  obtain ⟨a0, a1, a2, ha⟩ := varR_agg zs x
  obtain ⟨ee, he⟩ : ∃ ee, (varR zs x).2 = ee := ⟨_, rfl⟩
  have C1 : Hid (∀ w', Below w.heap.size w w' → Calls Try.prog 17 #[.slice A zs.length c, .int .i64 x] w' fun e w'' => e = .returned (.tuple #[.agg #[.int .i64 a0, .int .i64 a1, .int .i64 a2], .int .i64 ee]) ∧ Below w'.heap.size w' w'') := fun w' hb => by
    have := variable_any A c zs x w' hz hx0 hx1 ((hs.below hb).mono hb.size)
    rwa [ha, he] at this
  have C2 : Hid (∀ w', Below w.heap.size w w' → Calls Try.prog 18 #[.slice A zs.length c, .int .i64 x] w' fun e w'' => e = .returned (.tuple #[.agg #[.int .i64 a0, .int .i64 a1, .int .i64 a2], .int .i64 ee]) ∧ Below w'.heap.size w' w'') := fun w' hb => by
    have := rvariable_any A c zs x w' hz hx0 hx1 ((hs.below hb).mono hb.size)
    rwa [ha, he] at this
  obtain ⟨m, hm⟩ : ∃ m : Nat, (m : Int) = 1 + q % 20 := ⟨(1 + q % 20).toNat, by omega⟩
  have hm1 : 1 ≤ m := by omega
  have hm2 : m ≤ 20 := by omega
  have hm' : 1 + q % 20 = (m : Int) := hm.symm
  obtain ⟨n, hn⟩ : ∃ n, zs.length = n := ⟨_, rfl⟩
  rw [hn] at h1 hl C1 C2 ⊢
  clear hm ha he hs hz hn
  have hcond : (decide ((40 : Int) < (n : Int)) && decide ((n : Int) ≤ 1024)) = false := by
    rw [Bool.and_eq_false_iff]
    by_cases h : 40 < n
    · exact .inr (decide_eq_false (by omega))
    · exact .inl (decide_eq_false (by omega))
  by_cases hlen : (40 : Int) < (n : Int)
  all_goals
    (first | (have hlen2 : ¬ (n : Int) ≤ 1024 := by omega) | skip)
    clear hcond h1
    go_enter Try.func7, Try.ntmps7
    go_wp2_with fail
    refine (awake_any _).mono ?_
    rintro e w1 ⟨rfl, hb1⟩
    go_wp2_with fail
    refine (C1.out _ hb1).mono ?_
    rintro e w2 ⟨rfl, hb2⟩
    have b2 : Below w.heap.size w w2 := hb1.trans (hb2.mono hb1.size)
    go_wp2_with fail
    refine (C2.out _ (b2.alloc b2.size _)).mono ?_
    rintro e w3 ⟨rfl, hb3⟩
    obtain ⟨d0, d1, d2⟩ := keep3 hb3 (g := w2.heap.size) (a := .int .i64 a0) (b := .int .i64 a1) (c := .int .i64 a2) (by simp) (by simp) (by simp) (by simp)
    have hs2 : w2.heap.size < w3.heap.size := by have := hb3.size; simp at this; omega
    have b3 : Below w.heap.size w w3 := (b2.alloc b2.size (.cells #[.int .i64 a0, .int .i64 a1, .int .i64 a2] 27)).trans (hb3.mono (by have := b2.size; simp; omega))
    go_wp2_with fail
    have b4 : Below w.heap.size w (w3.alloc (.cells #[.int .i64 a0, .int .i64 a1, .int .i64 a2] 27)) := b3.alloc b3.size _
    generalize (w3.alloc (.cells #[.int .i64 a0, .int .i64 a1, .int .i64 a2] 27)) = wL at *
    clear C1 C2 d0 d1 d2 hs2 hb1 hb2 hb3 b2 b3
    go_loopw [13, 52] (fun v i wr => ∃ k : Nat, k ≤ m ∧ i = .int .i64 k ∧ wr.ownsRow wL.heap.size 3 1 v k (List.replicate k (.int .i64 (1 + s))) ∧ Below wL.heap.size wL wr) (fun _ i _ => m - (intOf i).toNat)
    case atStart => exact ⟨0, by omega, rfl, World.ownsRow_nil _ _ _ _, Below.refl _ _⟩
    case round =>
      obtain ⟨k, hk, rfl, hown, hb⟩ := hrel
      by_cases hlt : k < m
      · have hlt' : (k : Int) < (m : Int) := by omega
        go_wp2_with (at_builtin; refine wpList_app1 hown info_int Try.underlying33 rfl (by unfold maxLen; omega) (by omega) hb.size rfl rfl rfl (by rfl) (by rfl) ?_; intro v1 w2 hown2 hb2 _)
        go_roundw
        case rel => exact ⟨k + 1, by omega, by go_num, by rw [List.replicate_succ']; exact hown2, hb.trans hb2⟩
        case measure => simp [intOf]; omega
      · obtain rfl : k = m := by omega
        have hge : ¬ (k : Int) < (k : Int) := by omega
        obtain ⟨g, cap, hv, hg1, hg2, hg3⟩ := own_form hown (by omega)
        subst hv
        have b5 : Below w.heap.size w wr := b4.trans (hb.mono b4.size)
        have hsl : SlAt wr wr.heap.size (some ⟨g, 0, none⟩) ((List.replicate k (1 + s)).map (Value.int .i64)) := by rw [List.map_replicate]; exact SlAt.of_own hown hg2
        have hvar := variable_any (some ⟨g, 0, none⟩) cap (List.replicate k (1 + s)) x wr (by
          intro j z hj
          rw [List.getElem?_replicate] at hj
          split at hj
          · injection hj with hj
            omega
          · cases hj) hx0 hx1 hsl
        rw [List.length_replicate] at hvar
        have hk0 : (0 : Int) ≤ (k : Int) * (8 + s) := Int.mul_nonneg (by omega) (by omega)
        have hk1 : (k : Int) * (8 + s) ≤ 5260 := by
          have := Int.mul_le_mul (show (k : Int) ≤ 20 by omega) (show 8 + s ≤ 263 by omega) (by omega) (by omega)
          omega
        have e7 : 1 + s + 7 = 8 + s := by omega
        by_cases hxx : x < 0 ∨ (k : Int) * (8 + s) ≤ x
        · rw [varR_out (by omega) (by omega) (by omega) (by omega) (by rw [e7]; exact hxx)] at hvar
          have HV := Lib.hid hvar
          clear hvar e7
          by_cases hx : x < 0
          · clear hxx
            go_wp2_with fail
            refine HV.out.mono ?_
            rintro e w4 ⟨rfl, hb4⟩
            rw [zeroPS]
            go_wp2_with fail
            go_ret
            exact ⟨rfl, (b5.trans (hb4.mono b5.size)).alloc (b5.trans (hb4.mono b5.size)).size _⟩
          · have hx2 : (k : Int) * (8 + s) ≤ x := by omega
            clear hxx
            go_wp2_with fail
            refine HV.out.mono ?_
            rintro e w4 ⟨rfl, hb4⟩
            rw [zeroPS]
            go_wp2_with fail
            go_ret
            exact ⟨rfl, (b5.trans (hb4.mono b5.size)).alloc (b5.trans (hb4.mono b5.size)).size _⟩
        · have hx2 : 0 ≤ x := by omega
          have hx3 : x < (k : Int) * (8 + s) := by omega
          rw [varR_at (by omega) (by omega) (by omega) (by omega) hx2 (by rw [e7]; exact hx3)] at hvar
          have hloc : ∀ w, _ := fun w => locate_any (1 + s) x w
          have hE : numE (1 + s) x = 0 := numE_ok (sizedB_of (by omega) (by omega)) (by omega)
          rw [locV, if_pos hE, hE] at hloc
          obtain ⟨p0, p1, p2, hp⟩ : ∃ p0 p1 p2 : Int, placeV (x / (1 + s + 7)) (1 + s) (x % (1 + s + 7)) = .agg #[.int .i64 p0, .int .i64 p1, .int .i64 p2] := ⟨_, _, _, rfl⟩
          rw [hp] at hloc hvar
          have HV := Lib.hid hvar
          have HL := Lib.hid hloc
          clear hvar hloc e7 hp hE hxx
          go_wp2_with fail
          refine HV.out.mono ?_
          rintro e w4 ⟨rfl, hb4⟩
          go_wp2_with fail
          refine (HL.out _).mono ?_
          rintro e w5 ⟨rfl, hb5⟩
          obtain ⟨d0, d1, d2⟩ := keep3 hb5 (g := w4.heap.size) (a := .int .i64 p0) (b := .int .i64 p1) (c := .int .i64 p2) (by simp) (by simp) (by simp) (by simp)
          have hs5 : w4.heap.size < w5.heap.size := by have := hb5.size; simp at this; omega
          go_wp2_with fail
          go_ret
          have b6 := b5.trans (hb4.mono b5.size)
          have b7 := (b6.alloc b6.size (.cells #[.int .i64 p0, .int .i64 p1, .int .i64 p2] 27)).trans (hb5.mono (by have := b6.size; simp; omega))
          exact ⟨rfl, b7.alloc b7.size _⟩

theorem varies_walk (A : Option Addr) (len cap : Nat) (zs : List Int) (x s q : Int) (w : World) (w0 : IsRow .i64 w A len cap zs) (w1 : (Lit.int .i64 x).wf = true) (w2 : (Lit.int .u8 s).wf = true) (w3 : (Lit.int .u8 q).wf = true) :
    Calls Try.prog 7 #[.slice A len cap, .int .i64 x, .int .u8 s, .int .u8 q] w fun e w' => e = .returned (.bool true) ∧ Below w.heap.size w w' := by
  obtain ⟨x0, x1⟩ := wf_i64 w1
  obtain ⟨s0, s1⟩ := wf_u8 w2
  obtain ⟨q0, q1⟩ := wf_u8 w3
  obtain ⟨xs, rfl, hl, hs, hz⟩ := w0.out
  unfold maxLen at hl
  by_cases h : 40 < xs.length ∧ xs.length ≤ 1024
  · exact varies_skip A _ cap x s q w h.1 h.2
  · exact varies_go A cap xs x s q w h (by omega) hz (by omega) (by omega) s0 s1 q0 q1 hs
end Go.Proofs.Yticmopgpfplbnaa
