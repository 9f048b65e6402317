/-
  Record of the reference.
-/
import Derived.Test.YticmopgpfplbnaaRSplit
import Derived.Test.YticmopgpfplbnaaRecP
namespace Go.Proofs.Yticmopgpfplbnaa
open Go.RowKit
set_option linter.unusedVariables false

theorem own_slice {w : World} {base e size n : Nat} {v : Value} {xs : List Value} (h : w.ownsRow base e size v n xs) : ∃ A c, v = .slice A n c := by
  rcases h.2 with ⟨rfl, rfl⟩ | ⟨g, cap, cur, rfl, _⟩
  · exact ⟨none, 0, rfl⟩
  · exact ⟨_, _, rfl⟩
theorem SlAt.of_own' {w : World} {base e size n G c : Nat} {A : Option Addr} {xs : List Value} (h : w.ownsRow base e size (.slice A n c) n xs) (hG : w.heap.size ≤ G) : SlAt w G A xs := by
  rcases h.2 with ⟨h1, rfl⟩ | ⟨g, cap, cur, h1, h2⟩
  · have : xs = [] := List.eq_nil_of_length_eq_zero (by have := h.1; omega)
    rw [this]
    exact SlAt.nil _ _ _
  · injection h1 with h1 _ _
    subst h1
    have hlt := (h.lt g rfl).2
    intro j u hu
    refine ⟨g, 0, rfl, by omega, ?_⟩
    have := h.cells (g := g) rfl j u hu
    have hadd : (⟨g, 0, none⟩ : Addr).add j = ⟨g, 0 + j, none⟩ := by unfold Addr.add; split <;> simp_all
    rwa [hadd] at this
/-- Split in its two ways: what it answers, in letters. -/
theorem SplitR.yes {N : Nat} {ss : List ByteArray} {w : World} {e : Ending} {w' : World} (h : SplitR N ss w e w') (hok : splitOk N ss = true) : Below w.heap.size w w' ∧ ∃ A c hs cnt, cnt = pkCount N ss.length ∧ e = .returned (.tuple #[.slice A cnt c, .int .i64 0]) ∧ SlAt w' w'.heap.size A hs ∧ hs.length = cnt ∧
    ∀ r, r < cnt → ∃ P cp, hs[r]? = some (.slice P N cp) ∧ SlAt w' w'.heap.size P ((pk N zeroBlk ss r).map Value.string) := by
  obtain ⟨hb, A, c, hs, he, hsl, hS⟩ := h
  have hL : splitL N ss = pks N zeroBlk ss := by unfold splitL; rw [if_pos hok]; rfl
  have hE : splitE N ss = 0 := if_pos hok
  rw [hL, hE, pks_length] at he
  rw [hL] at hS
  refine ⟨hb, A, c, hs, _, rfl, he, hsl, by rw [hS.1, pks_length], fun r hr => ?_⟩
  obtain ⟨P, cp, h1, h2⟩ := hS.2 r _ (pks_get hr)
  rw [pk_length] at h1
  exact ⟨P, cp, h1, h2⟩
theorem SplitR.err {n : Int} {ss : List ByteArray} {w : World} {e : Ending} {w' : World} (h : SplitR n ss w e w') (hok : splitOk n ss = false) : Below w.heap.size w w' ∧ ∃ A c, e = .returned (.tuple #[.slice A 0 c, .int .i64 1]) := by
  obtain ⟨hb, A, c, hs, he, hsl, hS⟩ := h
  have hL : splitL n ss = [] := if_neg (by simp [hok])
  have hE : splitE n ss = 1 := if_neg (by simp [hok])
  rw [hL, hE] at he
  exact ⟨hb, A, c, he⟩

theorem rrec_arg (n s : Int) (A : Option Addr) (c : Nat) (ss : List ByteArray) (w : World) (hs : SlAt w w.heap.size A (ss.map Value.string)) (hl : ss.length ≤ 4096) (hz : ∀ s ∈ ss, s.size ≤ maxLen) (hok : splitOk n ss = false) :
    Calls Try.prog 22 #[.int .i64 n, .int .i64 s, .slice A ss.length c] w (RecR n s ss w) := by
  have HN := Lib.hid hok
  have C := Lib.hid (rsplit_any n A c ss w hs (by omega) hz)
  clear hok hs hz
  go_enter Try.func22, Try.ntmps22
  go_wp2_with fail
  refine C.out.mono ?_
  intro e w1 h1
  obtain ⟨hb1, A1, c1, rfl⟩ := h1.err HN.out
  go_wp2_with fail
  go_ret2
  exact RecR.arg HN.out rfl hb1

theorem rrec_range (N : Nat) (s : Int) (A : Option Addr) (c : Nat) (ss : List ByteArray) (w : World) (hN1 : 1 ≤ N) (hN2 : N ≤ 1024) (hs : SlAt w w.heap.size A (ss.map Value.string)) (hl : ss.length ≤ 4096) (hz : ∀ s ∈ ss, s.size ≤ maxLen) (hok : splitOk N ss = true) (hfit : recFit N s ss = false)
    (hs0 : -9223372036854775808 ≤ s) :
    Calls Try.prog 22 #[.int .i64 N, .int .i64 s, .slice A ss.length c] w (RecR N s ss w) := by
  have HN := Lib.hid hok
  have HF := Lib.hid hfit
  have C := Lib.hid (rsplit_any N A c ss w hs (by omega) hz)
  have hcb : pkCount N ss.length ≤ 4096 := Nat.le_trans (pkCount_le hN1) hl
  have hf : s < 0 ∨ 449849 < s ∨ (0 ≤ s ∧ s ≤ 449849 ∧ 449849 < s + ((pkCount N ss.length : Nat) : Int) * ((N : Int) + 7) - 1) := by
    have := of_decide_eq_false hfit
    unfold recN at this
    simp only [Int.toNat_natCast] at this
    rw [Int.natCast_mul, Int.natCast_add] at this
    have e7 : ((7 : Nat) : Int) = 7 := rfl
    rw [e7] at this
    omega
  clear hok hs hz hfit
  rcases hf with h | h | ⟨h1, h2, h3⟩
  · go_enter Try.func22, Try.ntmps22
    go_wp2_with fail
    refine C.out.mono ?_
    intro e w1 h1
    obtain ⟨hb1, A1, c1, hs1, cnt, hcnt, rfl, hsl1, hlen1, hp1⟩ := h1.yes HN.out
    clear h1 hcnt
    go_wp2_with fail
    go_ret2
    exact RecR.range HN.out HF.out rfl hb1
  · have h0 : ¬ s < 0 := by omega
    go_enter Try.func22, Try.ntmps22
    go_wp2_with fail
    refine C.out.mono ?_
    intro e w1 h1
    obtain ⟨hb1, A1, c1, hs1, cnt, hcnt, rfl, hsl1, hlen1, hp1⟩ := h1.yes HN.out
    clear h1 hcnt
    go_wp2_with fail
    go_ret2
    exact RecR.range HN.out HF.out rfl hb1
  · go_enter Try.func22, Try.ntmps22
    go_wp2_with fail
    refine C.out.mono ?_
    intro e w1 h1
    obtain ⟨hb1, A1, c1, hs1, cnt, hcnt, rfl, hsl1, hlen1, hp1⟩ := h1.yes HN.out
    rw [← hcnt] at h3 hcb
    have hm0 : 0 ≤ (cnt : Int) * ((N : Int) + 7) := Int.mul_nonneg (by omega) (by omega)
    have hm1 : (cnt : Int) * ((N : Int) + 7) ≤ 5000000 := by
      have := Int.mul_le_mul (show (cnt : Int) ≤ 4096 by omega) (show (N : Int) + 7 ≤ 1031 by omega) (by omega) (by omega)
      omega
    clear h1 hcnt
    go_wp2_with fail
    go_ret2
    exact RecR.range HN.out HF.out rfl hb1

set_option maxRecDepth 100000 in
set_option maxHeartbeats 4000000 in
theorem rrec_go (N : Nat) (s : Int) (A : Option Addr) (c : Nat) (ss : List ByteArray) (w : World) (hN1 : 1 ≤ N) (hN2 : N ≤ 1024) (hs : SlAt w w.heap.size A (ss.map Value.string)) (hl : ss.length ≤ 4096) (hz : ∀ s ∈ ss, s.size ≤ maxLen) (hok : splitOk N ss = true) (hfit : recFit N s ss = true) :
    Calls Try.prog 22 #[.int .i64 N, .int .i64 s, .slice A ss.length c] w (RecR N s ss w) := by
  have HN := Lib.hid hok
  have HF := Lib.hid hfit
  have C := Lib.hid (rsplit_any N A c ss w hs (by omega) hz)
  obtain ⟨hs0, hs1, hs2⟩ := of_decide_eq_true hfit
  obtain ⟨T, hT⟩ : ∃ T, recN N ss = T := ⟨_, rfl⟩
  rw [hT] at hs2
  have hT2 : T = pkCount N ss.length * (N + 7) := by rw [← hT]; rfl
  have HT := Lib.hid hT
  have HT2 := Lib.hid hT2
  have hl' : ss.length ≤ 4096 := hl
  clear hok hs hz hfit hT hT2
  have HLN := Lib.hid (rfl : ss.length = ss.length)
  go_enter Try.func22, Try.ntmps22
  go_wp2_with fail
  refine C.out.mono ?_
  intro e w1 h1
  obtain ⟨hb1, A1, c1, hh1, cnt, hcnt, rfl, hsl1, hlen1, hp1⟩ := h1.yes HN.out
  have HCN := Lib.hid hcnt
  have hTI : (T : Int) = (cnt : Int) * ((N : Int) + 7) := by rw [HT2.out, ← hcnt, Int.natCast_mul, Int.natCast_add]; rfl
  have hm0 : 0 ≤ (cnt : Int) * ((N : Int) + 7) := Int.mul_nonneg (by omega) (by omega)
  have hm1 : (cnt : Int) * ((N : Int) + 7) ≤ 449850 := by omega
  have hm2 : s + (cnt : Int) * ((N : Int) + 7) - 1 ≤ 449849 := by omega
  have HLEN1 := Lib.hid hlen1
  have HP1 := Lib.hid hp1
  have HSL1 := Lib.hid hsl1
  have hcT : cnt * 1 ≤ cnt * (N + 7) := Nat.mul_le_mul_left _ (by omega)
  have hcT2 : cnt * 1 ≤ T := by rw [HT2.out, ← HCN.out]; exact hcT
  clear h1 hcnt hTI hlen1 hp1 hsl1 hcT
  go_wp2_with fail
  go_loopw [10, 11] (fun out i' wr => ∃ (r t c : Nat) (A : Option Addr), r ≤ cnt ∧ i' = .int .i64 r ∧ Hid (t = r * (N + 7)) ∧ out = .slice A t c ∧ wr.ownsRow w1.heap.size 53 7 (.slice A t c) t (flat encS (recUp N s ss t)) ∧ Below w1.heap.size w1 wr) (fun _ i' _ => cnt - (intOf i').toNat)
  case atStart => exact ⟨0, 0, 0, _, by omega, rfl, Lib.hid (Nat.zero_mul _).symm, rfl, World.ownsRow_made _ _ _ (Nat.le_refl _) (by decide) rfl, (Below.refl _ _).alloc (Nat.le_refl _) _⟩
  case round =>
    obtain ⟨r, t0, c0, A0, hr, rfl, HTR, rfl, hown, hbel⟩ := hrel
    obtain ⟨wo, rfl⟩ : ∃ wo : World, wo = wr := ⟨_, rfl⟩
    by_cases hlt : r < cnt
    · have hltI : (r : Int) < (cnt : Int) := by omega
      have h0r : (0 : Int) ≤ (r : Int) := by omega
      have hrT : t0 + (N + 7) ≤ T := by
        rw [HTR.out, HT2.out, ← HCN.out]
        have := Nat.mul_le_mul_right (N + 7) (show r + 1 ≤ cnt by omega)
        rw [Nat.succ_mul] at this
        exact this
      obtain ⟨b, off, hA, hb, hc⟩ := HSL1.out.one (by rw [HLEN1.out]; omega)
      obtain ⟨P, cp, hg1, hP⟩ := HP1.out r hlt
      obtain ⟨b2, off2, hP2, hb2, hc2⟩ := hP.one (by rw [List.length_map, pk_length]; omega)
      subst hA hP2
      have HG1 := Lib.hid (hc r _ hg1)
      have HC2 := Lib.hid hc2
      clear hc hg1 hP hc2
      go_wp2_with fail
      go_loopw [10, 12] (fun out k' wr => ∃ (k c : Nat) (A : Option Addr), k ≤ N + 7 ∧ k' = .int .i64 k ∧ out = .slice A (t0 + k) c ∧ wr.ownsRow w1.heap.size 53 7 (.slice A (t0 + k) c) (t0 + k) (flat encS (recUp N s ss (t0 + k))) ∧ Below w1.heap.size w1 wr) (fun _ k' _ => N + 7 - (intOf k').toNat)
      case atStart => exact ⟨0, c0, A0, by omega, rfl, rfl, hown, hbel⟩
      case round =>
        clear hown hbel
        obtain ⟨k, c1, A2, hk, rfl, rfl, hown, hbel⟩ := hrel
        by_cases hkN : k < N + 7
        · have hkI : (k : Int) < (N : Int) + 7 := by omega
          obtain ⟨d, hd⟩ : ∃ d, recD N ss r k = d := ⟨_, rfl⟩
          have HSN := Lib.hid (recUp_snoc (s := s) (show t0 + k = r * (N + 7) + k by rw [HTR.out]) hkN hd)
          have hcast : ((t0 + k : Nat) : Int) = (t0 : Int) + (k : Int) := by omega
          by_cases hmid : 5 ≤ k ∧ k < 5 + N
          · obtain ⟨j, hj⟩ : ∃ j, k = 5 + j := ⟨k - 5, by omega⟩
            have HJ := Lib.hid hj
            rw [hj] at hd
            have HSN := Lib.hid HSN.out
            have g1 := (hbel.cell (p := ⟨b, off + r, none⟩) hb).trans HG1.out
            have g2 := (hbel.cell (p := ⟨b2, off2 + j, none⟩) hb2).trans (HC2.out j (.string d) (by rw [List.getElem?_map, pk_get (by omega), ← hd, recD_mid (by omega)]; rfl))
            have ej : (k : Int) - 5 = (j : Int) := by omega
            have hj0 : (0 : Int) ≤ (j : Int) := by omega
            have hjN : (j : Int) < (N : Int) := by omega
            have hk5 : (5 : Int) ≤ (k : Int) := by omega
            have hk6 : (k : Int) < 5 + (N : Int) := by omega
            have HOWN := Lib.hid hown
            have HBEL := Lib.hid hbel
            clear hd hmid hown hbel hj
            go_wp2_with fail
            refine (rzero_any _).mono ?_
            rintro e w2 ⟨rfl, hb2'⟩
            have hbel2 : Below w1.heap.size w1 w2 := HBEL.out.trans (hb2'.mono HBEL.out.size)
            have g3 := (hb2'.cell (p := ⟨b, off + r, none⟩) (Nat.lt_of_lt_of_le hb HBEL.out.size)).trans g1
            have g4 := (hb2'.cell (p := ⟨b2, off2 + j, none⟩) (Nat.lt_of_lt_of_le hb2 HBEL.out.size)).trans g2
            have hbw : b < w2.heap.size := Nat.lt_of_lt_of_le hb hbel2.size
            have hbw2 : b2 < w2.heap.size := Nat.lt_of_lt_of_le hb2 hbel2.size
            have hown2 := own_all HOWN.out hb2'
            clear g1 g2 hb2' hcast
            have hszA : w1.heap.size ≤ (w2.alloc (.cells #[.int .i64 (s + ((t0 : Int) + k)), .int .i64 0, .int .i64 0, .int .i64 0, .int .i64 0, .int .i64 0, .string d] 53)).heap.size := by have := hbel2.size; rw [World.size_alloc]; omega
            go_wp2_with (at_builtin; refine wpList_appNH (hown2.alloc _) (World.size_alloc _ _) info_sec Try.underlying38 rfl (by decide) (us := [.int .i64 (s + ((t0 : Int) + k)), .int .i64 0, .int .i64 0, .int .i64 0, .int .i64 0, .int .i64 0, .string d]) rfl (by unfold maxLen; omega) (by omega) hszA (by intro u hu; simp at hu; rcases hu with rfl | rfl | rfl <;> rfl) rfl rfl (by rfl) (by rfl) ?_; intro v4 w4 hown4 hb4 hg4; obtain ⟨g4, cap4, hv4, hx1, hx2, hx3⟩ := own_form hown4 (Nat.succ_pos _); subst hv4)
            have hcast : ((t0 + k : Nat) : Int) = (t0 : Int) + (k : Int) := by omega
            go_roundw
            case rel => exact ⟨k + 1, cap4, some ⟨g4, 0, none⟩, by omega, by go_num, rfl, by rw [← Nat.add_assoc, ← HSN.out, flat_snoc, hcast]; exact hown4, (hbel2.alloc hbel2.size _).trans hb4⟩
            case measure => simp [intOf]; omega
          · have hd2 : d = zeroBlk := by
              rw [← hd]
              by_cases h5 : k < 5
              · exact recD_low h5
              · exact recD_high (by omega)
            rw [hd2] at HSN
            have HOWN := Lib.hid hown
            have HBEL := Lib.hid hbel
            have hfin : (k < 5 ∨ 5 + N ≤ k) := by omega
            clear hd hd2 hown hbel hmid hcast
            have hkk : ¬ ((5 : Int) ≤ (k : Int)) ∨ ((5 : Int) ≤ (k : Int) ∧ ¬ ((k : Int) < 5 + (N : Int))) := by omega
            go_wp2_with fail
            refine (rzero_any _).mono ?_
            rintro e w2 ⟨rfl, hb2'⟩
            have hbel2 : Below w1.heap.size w1 w2 := HBEL.out.trans (hb2'.mono HBEL.out.size)
            have hown2 := own_all HOWN.out hb2'
            clear hb2' hfin
            have hszA : w1.heap.size ≤ (w2.alloc (.cells #[.int .i64 (s + ((t0 : Int) + k)), .int .i64 0, .int .i64 0, .int .i64 0, .int .i64 0, .int .i64 0, .string zeroBlk] 53)).heap.size := by have := hbel2.size; rw [World.size_alloc]; omega
            rcases hkk with h5 | ⟨h5, h6⟩
            all_goals
              go_wp2_with (at_builtin; refine wpList_appNH (hown2.alloc _) (World.size_alloc _ _) info_sec Try.underlying38 rfl (by decide) (us := [.int .i64 (s + ((t0 : Int) + k)), .int .i64 0, .int .i64 0, .int .i64 0, .int .i64 0, .int .i64 0, .string zeroBlk]) rfl (by unfold maxLen; omega) (by omega) hszA (by intro u hu; simp at hu; rcases hu with rfl | rfl | rfl <;> rfl) rfl rfl (by rfl) (by rfl) ?_; intro v4 w4 hown4 hb4 hg4; obtain ⟨g4, cap4, hv4, hx1, hx2, hx3⟩ := own_form hown4 (Nat.succ_pos _); subst hv4)
              have hcast : ((t0 + k : Nat) : Int) = (t0 : Int) + (k : Int) := by omega
              go_roundw
              case rel => exact ⟨k + 1, cap4, some ⟨g4, 0, none⟩, by omega, by go_num, rfl, by rw [← Nat.add_assoc, ← HSN.out, flat_snoc, hcast]; exact hown4, (hbel2.alloc hbel2.size _).trans hb4⟩
              case measure => simp [intOf]; omega
        · obtain rfl : k = N + 7 := by omega
          have hkI : ¬ (((N + 7 : Nat) : Int) < (N : Int) + 7) := by omega
          have hkI2 : ((N + 7 : Nat) : Int) = (N : Int) + 7 := by omega
          have hkI3 : ¬ ((N : Int) + 7 < (N : Int) + 7) := by omega
          have HOWN := Lib.hid hown
          clear hown
          go_wp2_with fail
          go_roundw
          case rel => exact ⟨r + 1, t0 + (N + 7), c1, A2, by omega, by go_num, Lib.hid (by rw [HTR.out, Nat.succ_mul]), rfl, HOWN.out, hbel⟩
          case measure => simp [intOf]; omega
    · obtain rfl : r = cnt := by omega
      have hge : ¬ (r : Int) < (r : Int) := by omega
      have HOWN := Lib.hid hown
      clear hown
      go_wp2_with fail
      go_ret2
      exact RecR.ok HN.out HF.out (by rw [HT.out, HT2.out, HTR.out, HCN.out]) rfl (hb1.trans (hbel.mono hb1.size)) (SlAt.of_own' HOWN.out (Nat.le_refl _))
theorem rrec_any (n s : Int) (A : Option Addr) (c : Nat) (ss : List ByteArray) (w : World) (hs : SlAt w w.heap.size A (ss.map Value.string)) (hl : ss.length ≤ 4096) (hz : ∀ s ∈ ss, s.size ≤ maxLen) (hs0 : -9223372036854775808 ≤ s) :
    Calls Try.prog 22 #[.int .i64 n, .int .i64 s, .slice A ss.length c] w (RecR n s ss w) := by
  cases hok : splitOk n ss with
  | false => exact rrec_arg n s A c ss w hs hl hz hok
  | true =>
    have h1 : sizedB n = true := by
      unfold splitOk at hok
      simp only [Bool.and_eq_true] at hok
      exact hok.1
    obtain ⟨N, rfl, h1, h2⟩ := sized_nat h1
    cases hfit : recFit N s ss with
    | false => exact rrec_range N s A c ss w h1 h2 hs hl hz hok hfit hs0
    | true => exact rrec_go N s A c ss w h1 h2 hs hl hz hok hfit
end Go.Proofs.Yticmopgpfplbnaa
