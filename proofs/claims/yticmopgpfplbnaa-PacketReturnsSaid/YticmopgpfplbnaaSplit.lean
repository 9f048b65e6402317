/-
  Split of the program.
-/
import Derived.Test.YticmopgpfplbnaaSame2
import Derived.Test.YticmopgpfplbnaaPack
import Derived.Test.YticmopgpfplbnaaApp
import Derived.Handy
namespace Go.Proofs.Yticmopgpfplbnaa
open Go.RowKit
set_option linter.unusedVariables false

def blksOk (ss : List ByteArray) : Bool := ss.all fun s => s.size == 2048
def splitOk (n : Int) (ss : List ByteArray) : Bool := sizedB n && blksOk ss
def splitL (n : Int) (ss : List ByteArray) : List (List ByteArray) := if splitOk n ss then pks n.toNat zeroBlk ss else []
def splitE (n : Int) (ss : List ByteArray) : Int := if splitOk n ss then 0 else 1
/-- What Split answers, and where it lies. -/
def SplitR (n : Int) (ss : List ByteArray) (w : World) (e : Ending) (w' : World) : Prop :=
  Below w.heap.size w w' ∧ ∃ A c hs, e = .returned (.tuple #[.slice A (splitL n ss).length c, .int .i64 (splitE n ss)]) ∧ SlAt w' w'.heap.size A hs ∧ Slices w' w'.heap.size hs (splitL n ss)
theorem SplitR.no {n : Int} {ss : List ByteArray} {w w' : World} {e : Ending} (h : splitOk n ss = false) (he : e = .returned (.tuple #[.slice none 0 0, .int .i64 1])) (hb : Below w.heap.size w w') : SplitR n ss w e w' := by
  have h1 : splitL n ss = [] := if_neg (by simp [h])
  have h2 : splitE n ss = 1 := if_neg (by simp [h])
  refine ⟨hb, none, 0, [], ?_, SlAt.nil _ _ _, ?_⟩
  · rw [h1, h2, he]; rfl
  · rw [h1]; exact ⟨rfl, fun i l hl => by simp at hl⟩
theorem blks_no {ss : List ByteArray} {k : Nat} {s : ByteArray} (hk : ss[k]? = some s) (hz : s.size ≠ 2048) : blksOk ss = false := by
  unfold blksOk
  rw [List.all_eq_false]
  exact ⟨s, List.mem_of_getElem? hk, by simpa using hz⟩
theorem blks_all {ss : List ByteArray} (h : ∀ (k : Nat) s, ss[k]? = some s → s.size = 2048) : blksOk ss = true := by
  unfold blksOk
  rw [List.all_eq_true]
  intro s hs
  obtain ⟨k, hk⟩ := List.getElem?_of_mem hs
  simpa using h k s hk

theorem strs_one (l : List ByteArray) : ∀ u ∈ l.map Value.string, u.oneCell' = true := by
  intro u hu
  obtain ⟨y, _, rfl⟩ := List.mem_map.1 hu
  rfl
theorem info_str : (Try.prog.info? 9).map (fun i => (i.zero, i.size, i.bytes)) = some (some (.string ⟨#[]⟩), 1, 16) := by kernel_rfl
theorem info_strs : (Try.prog.info? 37).map (fun i => (i.zero, i.size, i.bytes)) = some (some (.slice none 0 0), 1, 24) := by kernel_rfl

/-- One row more, behind an append to the row of rows. -/
theorem rows_step {w w4 : World} {B0 G E E' r N : Nat} {hs : List Value} {LL : List (List Value)} {L : List Value} {out p : Value} (hr : RowsOf w B0 G E hs LL) (hG : G ≤ w.heap.size) (ho : w.ownsRow B0 E' 1 out r hs) (hne : E ≠ E') (hp : w.ownsRow G E 1 p N L) (hL : L.length = N) (hB : B0 ≤ G) (hg : w.grownBy w4 out.ownBlock) :
    RowsOf w4 B0 w4.heap.size E (hs ++ [p]) (LL ++ [L]) := by
  have h1 := (hr.grown ho hne hg).mono (Nat.le_trans hG hg.size)
  have h2 := own_grown hp hg (own_ne hp ho hne)
  refine h1.snoc ⟨?_, fun k hk => (h2.lt k hk).2⟩
  rw [hL]
  exact own_base h2 hB

theorem split_size (n : Int) (A : Option Addr) (c : Nat) (ss : List ByteArray) (w : World) (h : sizedB n = false) :
    Calls Try.prog 19 #[.int .i64 n, .slice A ss.length c] w (SplitR n ss w) := by
  have HN := Lib.hid (show splitOk n ss = false by unfold splitOk; rw [h]; rfl)
  have C := Lib.hid (fun w => sized_any n w)
  rw [h] at C
  clear h
  go_enter Try.func19, Try.ntmps19
  go_wp2_with fail
  refine (C.out _).mono ?_
  rintro e w1 ⟨rfl, rfl⟩
  go_wp2_with fail
  go_ret2
  exact SplitR.no HN.out rfl (Below.refl _ _)

set_option maxRecDepth 100000 in
set_option maxHeartbeats 4000000 in
theorem split_go (N : Nat) (A : Option Addr) (c : Nat) (ss : List ByteArray) (w : World) (hN1 : 1 ≤ N) (hN2 : N ≤ 1024) (hs : SlAt w w.heap.size A (ss.map Value.string)) (hl : ss.length ≤ 100000) (hc : ss.length ≤ c) (hcm : c ≤ maxLen) (h0 : 0 < ss.length) (hz : ∀ s ∈ ss, s.size ≤ maxLen) :
    Calls Try.prog 19 #[.int .i64 N, .slice A ss.length c] w (SplitR N ss w) := by
  obtain ⟨b, off, rfl, hb, hcell⟩ := hs.one (by simpa using h0)
  have C := Lib.hid (fun w => sized_any N w)
  have hsz : sizedB N = true := sizedB_of (by omega) (by omega)
  rw [hsz] at C
  have HC := Lib.hid hcell
  have HZ := Lib.hid hz
  obtain ⟨len, hlen⟩ : ∃ n, ss.length = n := ⟨_, rfl⟩
  have HL := Lib.hid hlen
  have HSL := Lib.hid hs
  rw [hlen] at hl hc h0 ⊢
  unfold maxLen at hcm
  clear hcell hz hlen hs hsz
  go_enter Try.func19, Try.ntmps19
  go_wp2_with fail
  refine (C.out _).mono ?_
  rintro e w1 ⟨rfl, rfl⟩
  go_wp2_with fail
  go_loop [16] (fun i => ∃ k : Nat, k ≤ len ∧ i = .int .i64 k ∧ Hid (∀ (j : Nat) s, j < k → ss[j]? = some s → s.size = 2048)) (fun i => len - (intOf i).toNat)
  case atStart => exact ⟨0, by omega, rfl, fun j s hj => by omega⟩
  case round =>
    obtain ⟨k, hk, rfl, HS⟩ := hrel
    by_cases hlt : k < len
    · obtain ⟨s, hs1⟩ : ∃ s, ss[k]? = some s := ⟨ss[k]'(by rw [HL.out]; exact hlt), List.getElem?_eq_getElem _⟩
      have g1 := HC.out k (.string s) (by simp [hs1])
      have hsm := HZ.out s (List.mem_of_getElem? hs1)
      unfold maxLen at hsm
      have hltI : (k : Int) < (len : Int) := by omega
      have h0k : (0 : Int) ≤ (k : Int) := by omega
      have HK := Lib.hid hs1
      clear hs1
      by_cases hz : s.size = 2048
      · have hz' : ((s.size : Int) != 2048) = false := by rw [hz]; rfl
        have HZ2 := Lib.hid hz
        clear hz
        go_wp2_with fail
        go_round
        case rel =>
          refine ⟨k + 1, by omega, by go_num, fun j y hj hy => ?_⟩
          by_cases hjk : j = k
          · subst hjk
            rw [HK.out] at hy
            injection hy with hy
            subst hy
            exact HZ2.out
          · exact HS.out j y (by omega) hy
        case measure => simp [intOf]; omega
      · have hz' : ((s.size : Int) != 2048) = true := by rw [bne_iff_ne]; omega
        have HN := Lib.hid (show splitOk N ss = false by unfold splitOk; rw [blks_no HK.out hz, Bool.and_false])
        clear hz
        go_wp2_with fail
        go_ret2
        exact SplitR.no HN.out rfl (Below.refl _ _)
    · obtain rfl : k = len := by omega
      have hge : ¬ (k : Int) < (k : Int) := by omega
      have HA := Lib.hid (show blksOk ss = true from blks_all fun j s hj => HS.out j s (by have := (List.getElem?_eq_some_iff.1 hj).1; rw [HL.out] at this; exact this) hj)
      go_wp2_with fail
      go_loopw [1, 8] (fun bl out wr => ∃ (rem : Nat) (A : Option Addr) (cc : Nat) (hs : List Value) (r i : Nat), Hid (i = r * N) ∧ bl = .slice A rem cc ∧ rem ≤ cc ∧ cc ≤ c ∧ (rem + i = k ∨ (rem = 0 ∧ k ≤ i ∧ i < k + N)) ∧ (0 < rem → A = some ⟨b, off + i, none⟩) ∧
          wr.ownsRow w.heap.size 37 1 out r hs ∧ RowsOf wr w.heap.size wr.heap.size 9 hs (((pks N zeroBlk ss).take r).map fun l => l.map Value.string) ∧ Below w.heap.size w wr) (fun bl _ _ => match bl with | .slice _ n _ => n | _ => 0)
      case atStart => exact ⟨k, _, c, [], 0, 0, Lib.hid (Nat.zero_mul N).symm, rfl, hc, Nat.le_refl _, .inl (by omega), fun _ => rfl, World.ownsRow_nil _ _ _ _, by rw [List.take_zero]; exact RowsOf.nil, Below.refl _ _⟩
      case round =>
        obtain ⟨rem, A, cc, hs, r, i, HI, rfl, hrc, hcc, hri, hA, hown, hrows, hbel⟩ := hrel
        obtain ⟨wo, rfl⟩ : ∃ wo : World, wo = wr := ⟨_, rfl⟩
        by_cases h0 : 0 < rem
        · have hrN : rem + i = k := by omega
          have hA' := hA h0
          subst hA'
          have h0I : (0 : Int) < (rem : Int) := by omega
          have hrk : r < pkCount N ss.length := (count_lt hN1).2 (by rw [← HI.out, HL.out]; omega)
          have hlen1 : (((pks N zeroBlk ss).take r).map fun l => l.map Value.string).length = r := by rw [List.length_map, List.length_take, pks_length]; omega
          have hr1 : r ≤ 100000 := by
            have := (count_lt hN1).1 hrk
            rw [HL.out] at this
            have h2 : r * 1 ≤ r * N := Nat.mul_le_mul_left _ hN1
            omega
          -- the first part of the packet
          obtain ⟨M, hM, hM1, hM2⟩ : ∃ M : Nat, min (N : Int) (rem : Int) = (M : Int) ∧ ((M = N ∧ N ≤ rem) ∨ (M = rem ∧ rem < N)) ∧ 1 ≤ M := by
            by_cases hf : N ≤ rem
            · exact ⟨N, by rw [Int.min_def, if_pos (by omega)], .inl ⟨rfl, hf⟩, hN1⟩
            · exact ⟨rem, by rw [Int.min_def, if_neg (by omega)], .inr ⟨rfl, by omega⟩, h0⟩
          have hMN : M ≤ N := by omega
          have hMr : M ≤ rem := by omega
          have hMc : (M : Int) ≤ (cc : Int) := by omega
          have hnews : ∀ j u, ((((pk N zeroBlk ss r).take M).map Value.string))[j]? = some u → wo.cell? ⟨b, off + i + j, none⟩ = some u := by
            intro j u hu
            rw [pk_take hMN (by rw [← HI.out, HL.out]; omega), List.getElem?_map] at hu
            have hj : j < M := by
              rcases Nat.lt_or_ge j M with hlt | hge
              · exact hlt
              · rw [List.getElem?_eq_none (by rw [List.length_take]; omega)] at hu; cases hu
            rw [List.getElem?_take_of_lt hj, List.getElem?_drop, ← HI.out] at hu
            have := HC.out (i + j) u (by rw [List.getElem?_map]; exact hu)
            rw [Nat.add_assoc]
            exact (hbel.cell (p := ⟨b, off + (i + j), none⟩) hb).trans this
          have hnl : ((((pk N zeroBlk ss r).take M).map Value.string)).length = M := by rw [List.length_map, List.length_take, pk_length]; omega
          have HNW := Lib.hid hnews
          have HNL := Lib.hid hnl
          have HRK := Lib.hid hrk
          have HL1 := Lib.hid hlen1
          clear hA hri hnews hnl hrk hlen1 hge HS HSL
          go_wp2_with (at_builtin; refine wpList_appM (World.ownsRow_made wo #[] 0 (Nat.le_refl _) (by decide) rfl) info_str Try.underlying37 rfl HNL.out (fun j u hu => ((Below.refl _ _).alloc (Nat.le_refl _) _).cell (p := ⟨b, off + i + j, none⟩) (Nat.lt_of_lt_of_le hb hbel.size) |>.trans (HNW.out j u hu)) (strs_one _) (by unfold maxLen; omega) (by omega) (by simp) rfl rfl (by rfl) (by rfl) ?_; intro v1 w1 hp1 hb1 hg1)
          simp only [Nat.zero_add, List.nil_append] at hp1
          have hbG : Below wo.heap.size wo w1 := ((Below.refl _ _).alloc (Nat.le_refl _) _).trans hb1
          obtain ⟨g, cap, hv1, _, _, _⟩ := own_form hp1 hM2
          subst hv1
          clear hb1 hg1
          go_loopw [10] (fun p wp => ∃ (t g cap : Nat), M ≤ t ∧ t ≤ N ∧ p = .slice (some ⟨g, 0, none⟩) t cap ∧ wp.ownsRow wo.heap.size 9 1 p t (((pk N zeroBlk ss r).take t).map Value.string) ∧ Below wo.heap.size wo wp) (fun p _ => match p with | .slice _ n _ => N - n | _ => 0)
          case atStart => exact ⟨M, g, cap, Nat.le_refl _, hMN, rfl, hp1, hbG⟩
          case round =>
            clear hp1 hbG
            obtain ⟨t, g2, cap2, ht1, ht2, rfl, hp, hbp⟩ := hrel
            by_cases htN : t < N
            · have htI : (t : Int) < (N : Int) := by omega
              have hpast : ss.length ≤ r * N + t := by rw [HL.out, ← HI.out]; omega
              have HPS := Lib.hid (pk_past (z := zeroBlk) htN hpast)
              clear hpast
              go_wp2_with fail
              refine (zeros_any _).mono ?_
              rintro e w2 ⟨rfl, hb2⟩
              have hp2 := own_all hp hb2
              have hsz2 : wo.heap.size ≤ w2.heap.size := Nat.le_trans hbp.size hb2.size
              have hbp2 : Below wo.heap.size wo w2 := hbp.trans (hb2.mono hbp.size)
              go_wp2_with (at_builtin; refine wpList_app1 hp2 info_str Try.underlying37 rfl (by unfold maxLen; omega) (by omega) hsz2 rfl rfl rfl (by rfl) (by rfl) ?_; intro v3 w3 hp3 hb3 _)
              obtain ⟨g3, cap3, hv3, _, _, _⟩ := own_form hp3 (by omega)
              subst hv3
              go_roundw
              case rel => exact ⟨t + 1, g3, cap3, by omega, by omega, rfl, by rw [HPS.out, List.map_append]; exact hp3, hbp2.trans hb3⟩
              case measure => dsimp only; omega
            · obtain rfl : N = t := by omega
              have hown2 := own_all hown hbp
              have hrows2 := hrows.below hbp
              have hwr : w.heap.size ≤ wr.heap.size := Nat.le_trans hbel.size hbp.size
              have hbel2 : Below w.heap.size w wr := hbel.trans (hbp.mono hbel.size)
              rw [pk_all] at hp
              have HI2 := Lib.hid (show i + N = (r + 1) * N by rw [Nat.succ_mul, HI.out])
              have HTK := Lib.hid (pks_take (z := zeroBlk) HRK.out)
              have hMI : (M : Int) ≤ (rem : Int) := by omega
              by_cases hcM : cc = M
              · obtain rfl : rem = M := by omega
                subst hcM
                go_wp2_with (at_builtin; refine wpList_app1 hown2 info_strs Try.underlying39 rfl (by unfold maxLen; omega) (by omega) hwr rfl rfl rfl (by rfl) (by rfl) ?_; intro v4 w4 ho4 hb4 hg4)
                have hrows4 := rows_step hrows2 hbp.size hown2 (by decide) hp (by rw [List.length_map, pk_length]) hbel.size hg4
                go_roundw
                case rel => exact ⟨0, _, 0, _, r + 1, i + N, HI2.out, rfl, by omega, by omega, by omega, fun h => absurd h (by omega), ho4, by rw [HTK.out, List.map_append]; exact hrows4, hbel2.trans hb4⟩
                case measure => dsimp only; omega
              · have hcMI : ¬ (cc : Int) = (M : Int) := by omega
                go_wp2_with (at_builtin; refine wpList_app1 hown2 info_strs Try.underlying39 rfl (by unfold maxLen; omega) (by omega) hwr rfl rfl rfl (by rfl) (by rfl) ?_; intro v4 w4 ho4 hb4 hg4)
                have hrows4 := rows_step hrows2 hbp.size hown2 (by decide) hp (by rw [List.length_map, pk_length]) hbel.size hg4
                go_roundw
                case rel => exact ⟨rem - M, _, cc - M, _, r + 1, i + N, HI2.out, rfl, by omega, by omega, by omega, fun h => by rw [show off + i + M = off + (i + N) by omega], ho4, by rw [HTK.out, List.map_append]; exact hrows4, hbel2.trans hb4⟩
                case measure => dsimp only; omega
        · obtain rfl : rem = 0 := by omega
          have h0I : ¬ (0 : Int) < ((0 : Nat) : Int) := by omega
          have hcnt : pkCount N ss.length = r := count_eq hN1 (by rw [HL.out, ← HI.out]; omega) (by rw [HL.out, ← HI.out]; omega)
          have hok : splitOk N ss = true := by unfold splitOk; rw [HA.out, sizedB_of (by omega) (by omega)]; rfl
          have hL : splitL N ss = pks N zeroBlk ss := by unfold splitL; rw [if_pos hok]; rfl
          have hE : splitE N ss = 0 := if_pos hok
          have hlenr : (pks N zeroBlk ss).length = r := by rw [pks_length, hcnt]
          have hr1 : 0 < r := by
            rw [← hcnt]
            exact (count_lt hN1).2 (by rw [HL.out]; omega)
          obtain ⟨g, cap, hv, hg1, hg2, hg3⟩ := own_form hown hr1
          subst hv
          rw [List.take_of_length_le (by omega)] at hrows
          have hfin : SplitR N ss w (.returned (.tuple #[.slice (some ⟨g, 0, none⟩) r cap, .int .i64 0])) wo := by
            refine ⟨hbel, some ⟨g, 0, none⟩, cap, hs, ?_, SlAt.of_own hown hg2, ?_⟩
            · rw [hL, hE, hlenr]
            · rw [hL]; exact hrows.slices
          have HF := Lib.hid hfin
          clear hfin hL hE hok hcnt hlenr
          go_wp2_with fail
          go_ret2
          exact HF.out

theorem split_nil (N : Nat) (A : Option Addr) (c : Nat) (w : World) (hN1 : 1 ≤ N) (hN2 : N ≤ 1024) :
    Calls Try.prog 19 #[.int .i64 N, .slice A 0 c] w (SplitR N [] w) := by
  have C := Lib.hid (fun w => sized_any N w)
  have hsz : sizedB N = true := sizedB_of (by omega) (by omega)
  rw [hsz] at C
  have hcnt : pkCount N 0 = 0 := count_eq hN1 (by omega) (by omega)
  have hok : splitOk N [] = true := by unfold splitOk; rw [hsz]; rfl
  have hL : splitL N [] = [] := by unfold splitL; rw [if_pos hok]; exact List.eq_nil_of_length_eq_zero (by rw [pks_length]; exact hcnt)
  have hE : splitE N [] = 0 := if_pos hok
  have hfin : SplitR N [] w (.returned (.tuple #[.slice none 0 0, .int .i64 0])) w := by
    refine ⟨Below.refl _ _, none, 0, [], ?_, SlAt.nil _ _ _, ?_⟩
    · rw [hL, hE]; rfl
    · rw [hL]; exact ⟨rfl, fun i l hl => by simp at hl⟩
  have HF := Lib.hid hfin
  clear hfin hL hE hok hcnt hsz
  go_enter Try.func19, Try.ntmps19
  go_wp2_with fail
  refine (C.out _).mono ?_
  rintro e w1 ⟨rfl, rfl⟩
  go_wp2_with fail
  go_rounds 1
  go_wp2_with fail
  go_rounds 1
  go_wp2_with fail
  go_ret2
  exact HF.out
theorem sized_nat {n : Int} (h : sizedB n = true) : ∃ N : Nat, n = (N : Int) ∧ 1 ≤ N ∧ N ≤ 1024 := by
  have := of_decide_eq_true h
  exact ⟨n.toNat, by omega, by omega, by omega⟩
theorem split_any (n : Int) (A : Option Addr) (c : Nat) (ss : List ByteArray) (w : World) (hs : SlAt w w.heap.size A (ss.map Value.string)) (hl : ss.length ≤ 100000) (hc : ss.length ≤ c) (hcm : c ≤ maxLen) (hz : ∀ s ∈ ss, s.size ≤ maxLen) :
    Calls Try.prog 19 #[.int .i64 n, .slice A ss.length c] w (SplitR n ss w) := by
  cases h : sizedB n with
  | false => exact split_size n A c ss w h
  | true =>
    obtain ⟨N, rfl, h1, h2⟩ := sized_nat h
    by_cases h0 : 0 < ss.length
    · exact split_go N A c ss w h1 h2 hs hl hc hcm h0 hz
    · obtain rfl : ss = [] := List.eq_nil_of_length_eq_zero (by omega)
      exact split_nil N A c w h1 h2
end Go.Proofs.Yticmopgpfplbnaa
