/-
  Split of the reference.
-/
import Derived.Test.YticmopgpfplbnaaSplit
import Derived.Deep.CutRange
import Derived.Deep.RegionLaw
import Derived.Laws.OwnMore
namespace Go.Proofs.Yticmopgpfplbnaa
open Go.RowKit
set_option linter.unusedVariables false

theorem rsplit_size (n : Int) (A : Option Addr) (c : Nat) (ss : List ByteArray) (w : World) (h : sizedB n = false) :
    Calls Try.prog 20 #[.int .i64 n, .slice A ss.length c] w (SplitR n ss w) := by
  have HN := Lib.hid (show splitOk n ss = false by unfold splitOk; rw [h]; rfl)
  have C := Lib.hid (fun w => rsized_any n w)
  rw [h] at C
  clear h
  go_enter Try.func20, Try.ntmps20
  go_wp2_with fail
  refine (C.out _).mono ?_
  rintro e w1 ⟨rfl, rfl⟩
  go_wp2_with fail
  go_ret2
  exact SplitR.no HN.out rfl (Below.refl _ _)

/-- The rows are complete but for the last one, which lies by itself in a block from G on and has t elements. -/
def LastAt (N : Nat) (ss : List ByteArray) (w wr : World) (i r t G : Nat) (hs hs0 : List Value) (p : Value) : Prop :=
  i = r * N + t ∧ hs = hs0 ++ [p] ∧ w.heap.size ≤ G ∧ G ≤ wr.heap.size ∧ wr.ownsRow G 9 1 p t (((pk N zeroBlk ss r).take t).map Value.string) ∧
    RowsOf wr w.heap.size G 9 hs0 (((pks N zeroBlk ss).take r).map fun l => l.map Value.string)
def LastR (N : Nat) (ss : List ByteArray) (w wr : World) (i m : Nat) (hs : List Value) : Prop :=
  (i = 0 ∧ m = 0 ∧ hs = []) ∨ ∃ (r t G : Nat) (p : Value) (hs0 : List Value), m = r + 1 ∧ 1 ≤ t ∧ t ≤ N ∧ LastAt N ss w wr i r t G hs hs0 p

/-- At a packet's end all rows are complete. -/
theorem last_full {N : Nat} {ss : List ByteArray} {w wr : World} {i m : Nat} {hs : List Value} (hN : 1 ≤ N) (hi : i ≤ ss.length) (h : LastR N ss w wr i m hs) (h0 : i % N = 0) :
    m * N = i ∧ RowsOf wr w.heap.size wr.heap.size 9 hs (((pks N zeroBlk ss).take m).map fun l => l.map Value.string) := by
  rcases h with ⟨rfl, rfl, rfl⟩ | ⟨r, t, G, p, hs0, rfl, ht1, ht2, hir, rfl, hG1, hG2, hp, hr⟩
  · exact ⟨Nat.zero_mul _, by rw [List.take_zero]; exact RowsOf.nil⟩
  · have ht : t = N := by
      have : (r * N + t) % N = t % N := by rw [Nat.mul_comm, Nat.mul_add_mod]
      rw [hir, this] at h0
      rcases Nat.lt_or_ge t N with hlt | hge
      · rw [Nat.mod_eq_of_lt hlt] at h0; omega
      · omega
    subst ht
    have hrk : r < pkCount t ss.length := (count_lt hN).2 (by omega)
    refine ⟨by rw [Nat.succ_mul]; omega, ?_⟩
    rw [pks_take hrk, List.map_append]
    refine (hr.mono hG2).snoc ⟨?_, fun k hk => (hp.lt k hk).2⟩
    rw [pk_all] at hp
    rw [List.length_map, pk_length]
    exact own_base hp hG1

theorem types_ne : (9 : Nat) ≠ 37 := by decide
/-- One element more in the last row. -/
theorem last_step {N : Nat} {ss : List ByteArray} {w wc w4 : World} {r t G g cap go capo g4 cap4 : Nat} {hs0 : List Value} {x : ByteArray} (htN : t < N) (hl0 : hs0.length = r)
    (howo : wc.ownsRow w.heap.size 37 1 (.slice (some ⟨go, 0, none⟩) (r + 1) capo) (r + 1) (hs0 ++ [.slice (some ⟨g, 0, none⟩) t cap])) (hbelc : Below w.heap.size w wc) (hG1 : w.heap.size ≤ G) (hG2 : G ≤ wc.heap.size)
    (hrows : RowsOf wc w.heap.size G 9 hs0 (((pks N zeroBlk ss).take r).map fun l => l.map Value.string))
    (hp4 : w4.ownsRow G 9 1 (.slice (some ⟨g4, 0, none⟩) (t + 1) cap4) (t + 1) (((pk N zeroBlk ss r).take t).map Value.string ++ [.string x])) (hb4 : Below G wc w4)
    (ho4 : w4.ownsRow w.heap.size 37 1 (.slice (some ⟨go, 0, none⟩) (r + 1) capo) (r + 1) (hs0 ++ [.slice (some ⟨g, 0, none⟩) t cap]))
    (hx : ss[r * N + t]?.getD zeroBlk = x) :
    (w4.setCell ⟨go, r, none⟩ (.slice (some ⟨g4, 0, none⟩) (t + 1) cap4)).ownsRow w.heap.size 37 1 (.slice (some ⟨go, 0, none⟩) (r + 1) capo) (r + 1) (hs0 ++ [.slice (some ⟨g4, 0, none⟩) (t + 1) cap4]) ∧
      Below w.heap.size w (w4.setCell ⟨go, r, none⟩ (.slice (some ⟨g4, 0, none⟩) (t + 1) cap4)) ∧
      LastAt N ss w (w4.setCell ⟨go, r, none⟩ (.slice (some ⟨g4, 0, none⟩) (t + 1) cap4)) (r * N + t + 1) r (t + 1) G (hs0 ++ [.slice (some ⟨g4, 0, none⟩) (t + 1) cap4]) hs0 (.slice (some ⟨g4, 0, none⟩) (t + 1) cap4) := by
  obtain ⟨st1, st2⟩ := ho4.stored r (.slice (some ⟨g4, 0, none⟩) (t + 1) cap4)
  have hset : (hs0 ++ [Value.slice (some ⟨g, 0, none⟩) t cap]).set r (.slice (some ⟨g4, 0, none⟩) (t + 1) cap4) = hs0 ++ [.slice (some ⟨g4, 0, none⟩) (t + 1) cap4] := by
    rw [List.set_append_right _ _ (by omega), hl0, Nat.sub_self]
    rfl
  rw [hset] at st1
  refine ⟨st1, (hbelc.trans (hb4.mono hG1)).setCell (p := ⟨go, r, none⟩) (ho4.lt go rfl).1 _, by omega, rfl, hG1, ?_, ?_, ?_⟩
  · exact Nat.le_trans hG2 (Nat.le_trans hb4.size st2.size)
  · rw [pk_snoc htN, hx, List.map_append]
    exact own_grown hp4 st2 (own_ne hp4 ho4 types_ne)
  · exact (hrows.below hb4).grown ho4 types_ne st2

/-- How many elements the last row lacks. -/
def lastM (N : Nat) (out : Value) (wr : World) : Nat :=
  match out with
  | .slice (some a) n _ => (match wr.cell? ⟨a.block, n - 1, none⟩ with | some (.slice _ k _) => N - k | _ => 0)
  | _ => 0
theorem lastM_eq {N : Nat} {wr : World} {base go r capo t c : Nat} {A : Option Addr} {hs0 : List Value} (h : wr.ownsRow base 37 1 (.slice (some ⟨go, 0, none⟩) (r + 1) capo) (r + 1) (hs0 ++ [.slice A t c])) (hl : hs0.length = r) :
    lastM N (.slice (some ⟨go, 0, none⟩) (r + 1) capo) wr = N - t := by
  have := h.cellAt r (by omega)
  rw [List.getElem?_append_right (by omega), hl, Nat.sub_self] at this
  unfold lastM
  dsimp only
  rw [Nat.add_sub_cancel, this]
  rfl
theorem own_hl {w : World} {base e r : Nat} {v x : Value} {hs0 : List Value} (h : w.ownsRow base e 1 v (r + 1) (hs0 ++ [x])) : hs0.length = r := by
  have := h.1
  simp at this
  omega

set_option maxRecDepth 100000 in
set_option maxHeartbeats 4000000 in
theorem rsplit_go (N : Nat) (A : Option Addr) (c : Nat) (ss : List ByteArray) (w : World) (hN1 : 1 ≤ N) (hN2 : N ≤ 1024) (hs : SlAt w w.heap.size A (ss.map Value.string)) (hl : ss.length ≤ 100000) (h0 : 0 < ss.length) (hz : ∀ s ∈ ss, s.size ≤ maxLen) :
    Calls Try.prog 20 #[.int .i64 N, .slice A ss.length c] w (SplitR N ss w) := by
  obtain ⟨b, off, rfl, hb, hcell⟩ := hs.one (by simpa using h0)
  have C := Lib.hid (fun w => rsized_any N w)
  have hsz : sizedB N = true := sizedB_of (by omega) (by omega)
  rw [hsz] at C
  have HC := Lib.hid hcell
  have HZ := Lib.hid hz
  obtain ⟨len, hlen⟩ : ∃ n, ss.length = n := ⟨_, rfl⟩
  have HL := Lib.hid hlen
  rw [hlen] at hl h0 ⊢
  clear hcell hz hlen hs hsz
  go_enter Try.func20, Try.ntmps20
  go_wp2_with fail
  refine (C.out _).mono ?_
  rintro e w1 ⟨rfl, rfl⟩
  go_wp2_with fail
  go_loopw [6, 7] (fun out i' wr => ∃ (i m : Nat) (hs : List Value), i ≤ len ∧ i' = .int .i64 i ∧ wr.ownsRow w.heap.size 37 1 out m hs ∧ Below w.heap.size w wr ∧ Hid (∀ (j : Nat) s, j < i → ss[j]? = some s → s.size = 2048) ∧ LastR N ss w wr i m hs) (fun _ i' _ => len - (intOf i').toNat)
  case atStart => exact ⟨0, 0, [], by omega, rfl, World.ownsRow_made _ _ _ (Nat.le_refl _) (by decide) rfl, (Below.refl _ _).alloc (Nat.le_refl _) _, fun j s hj => by omega, .inl ⟨rfl, rfl, rfl⟩⟩
  case round =>
    obtain ⟨i, m, hs, hi, rfl, hown, hbel, HS, hlast⟩ := hrel
    by_cases hlt : i < len
    · obtain ⟨s, hs1⟩ : ∃ s, ss[i]? = some s := ⟨ss[i]'(by rw [HL.out]; exact hlt), List.getElem?_eq_getElem _⟩
      have g1 := (hbel.cell (p := ⟨b, off + i, none⟩) hb).trans (HC.out i (.string s) (by simp [hs1]))
      have hsm := HZ.out s (List.mem_of_getElem? hs1)
      unfold maxLen at hsm
      have hltI : (i : Int) < (len : Int) := by omega
      have h0k : (0 : Int) ≤ (i : Int) := by omega
      have HK := Lib.hid hs1
      have HLast := Lib.hid hlast
      clear hs1 hlast
      by_cases hz : s.size = 2048
      · have hz' : ((s.size : Int) != 2048) = false := by rw [hz]; rfl
        have HZ2 := Lib.hid hz
        clear hz
        have hmod : (i : Int).tmod (N : Int) = ((i % N : Nat) : Int) := by rw [Int.tmod_eq_emod_of_nonneg (by omega)]; omega
        have hNz : ¬ ((N : Int) = 0) := by omega
        go_upto_if 27 with fail
        have hm1 : m ≤ 100000 := by
          rcases HLast.out with ⟨_, rfl, _⟩ | ⟨r, t, G, p, hs0, rfl, ht1, ht2, hir, _⟩
          · omega
          · have : r * 1 ≤ r * N := Nat.mul_le_mul_left _ hN1
            omega
        go_cut [6] from 12 to 48 (fun out wx => ∃ (r t G : Nat) (p : Value) (hs0 : List Value) (g cap go capo : Nat), t < N ∧ r ≤ 100000 ∧ p = .slice (some ⟨g, 0, none⟩) t cap ∧ out = .slice (some ⟨go, 0, none⟩) (r + 1) capo ∧ wx.ownsRow w.heap.size 37 1 out (r + 1) (hs0 ++ [p]) ∧ Below w.heap.size w wx ∧ LastAt N ss w wx i r t G (hs0 ++ [p]) hs0 p)
        case first =>
          by_cases hm0 : i % N = 0
          · have ht : ((i : Int) % (N : Int) == 0) = true := by rw [beq_iff_eq]; omega
            obtain ⟨hmN, hrows⟩ := last_full hN1 (by rw [HL.out]; exact hi) HLast.out hm0
            have HMN := Lib.hid hmN
            clear hm0 hmN hmod
            have hemp := World.ownsRow_made (e := 9) (size := 1) wr #[] 0 (Nat.le_refl _) (by decide) rfl
            have hba : Below wr.heap.size wr (wr.alloc (.cells #[] 9)) := (Below.refl _ _).alloc (Nat.le_refl _) _
            have hrows2 := hrows.below hba
            have hown2 := hown.alloc (.cells #[] 9)
            go_wp2_with (at_builtin; refine wpList_app1H hown2 (World.size_alloc _ _) info_strs Try.underlying39 rfl (by unfold maxLen; omega) (by omega) (Nat.le_trans hbel.size hba.size) rfl rfl rfl (by rfl) (by rfl) ?_; intro v4 w4 ho4 hb4 hg4)
            obtain ⟨go, capo, hv4, _, _, _⟩ := own_form ho4 (by omega)
            have hp4 := own_grown hemp hg4 (own_ne hemp hown2 (by decide))
            have hrows4 := hrows2.grown hown2 (by decide) hg4
            have hsz4 : wr.heap.size ≤ w4.heap.size := Nat.le_trans hba.size hg4.size
            subst hv4
            go_meet
            exact ⟨m, 0, wr.heap.size, _, hs, _, _, go, capo, by omega, hm1, rfl, rfl, ho4, (hbel.trans (hba.mono hbel.size)).trans hb4, by rw [HMN.out]; rfl, rfl, hbel.size, hsz4, by rw [List.take_zero]; exact hp4, hrows4⟩
          · have ht : ((i : Int) % (N : Int) == 0) = false := by rw [beq_eq_false_iff_ne]; omega
            rcases HLast.out with ⟨rfl, _, _⟩ | ⟨r, t, G, p, hs0, rfl, ht1, ht2, hir, rfl, hG1, hG2, hp, hr⟩
            · exact absurd (Nat.zero_mod N) hm0
            · have htN : t < N := by
                rcases Nat.lt_or_ge t N with h | h
                · exact h
                · exfalso
                  obtain rfl : t = N := by omega
                  exact hm0 (by rw [hir, Nat.mul_comm, Nat.mul_add_mod, Nat.mod_self])
              obtain ⟨go, capo, hv4, _, _, _⟩ := own_form hown (by omega)
              obtain ⟨g, cap, hpv, _, _, _⟩ := own_form hp (by omega)
              subst hv4 hpv
              have HIR := Lib.hid hir
              clear hmod hir
              go_wp2_with fail
              go_meet
              exact ⟨r, t, G, _, hs0, g, cap, go, capo, htN, by omega, rfl, rfl, hown, hbel, HIR.out, rfl, hG1, hG2, hp, hr⟩
        case rest =>
          obtain ⟨r, t, G, p, hs0, g, cap, go, capo, htN, hr1, rfl, rfl, howo, hbelc, hir, _, hG1, hG2, hp, hrows⟩ := hcut
          clear HLast hown hbel hmod
          have HIR := Lib.hid hir
          clear hir
          have hl0 : hs0.length = r := by have := howo.1; simp at this; omega
          have c1 := (howo.cellAt r (by omega)).trans (by rw [List.getElem?_append_right (by omega), hl0]; simp : (hs0 ++ [Value.slice (some ⟨g, 0, none⟩) t cap])[r]? = some (.slice (some ⟨g, 0, none⟩) t cap))
          have f1 := howo.frozenAt r
          have g2 := (hbelc.cell (p := ⟨b, off + i, none⟩) hb).trans (HC.out i (.string s) (by simp [HK.out]))
          have er : IntKind.i64.wrap (r : Int) = (r : Int) := IntWalk.i64_in _ (by omega)
          have er2 : (r : Int) + 1 - 1 = (r : Int) := by omega
          have er3 : (0 : Int) ≤ (r : Int) := by omega
          have er4 : (r : Int) < (r : Int) + 1 := by omega
          have HXS := Lib.hid (show ss[r * N + t]?.getD zeroBlk = s by rw [← HIR.out, HK.out]; rfl)
          go_upto_region 11 with fail
          have hpd := own_drewN hp 1
          have hgo : go < wc.heap.size := (howo.lt go rfl).2
          have hbw : b < wc.heap.size := Nat.lt_of_lt_of_le hb hbelc.size
          have howd := own_drewN howo 1
          have hne39 : (37 : Nat) ≠ 9 := by decide
          have hcr : (hs0 ++ [Value.slice (some ⟨g, 0, none⟩) t cap])[r]? = some (.slice (some ⟨g, 0, none⟩) t cap) := by rw [List.getElem?_append_right (by omega), hl0]; simp
          have HCR := Lib.hid hcr
          clear hcr
          go_region_law (first | (refine step_app1 hpd info_str Try.underlying37 rfl (by unfold maxLen; omega) (by omega) hG2 rfl rfl rfl (by rfl) (by rfl) (by rfl) ?_; intro v4 w4 hp4 hb4 hg4; have ho4 := own_grown howd hg4 (own_ne howd hpd hne39); have c4 := (ho4.cellAt r (by omega)).trans HCR.out; have f4 := ho4.frozenAt r; obtain ⟨g4, cap4, hv4, hx1, hx2, hx3⟩ := own_form hp4 (Nat.succ_pos t); subst hv4))
          all_goals
            obtain ⟨fin1, fin2, fin3⟩ := last_step htN hl0 howo hbelc hG1 hG2 hrows hp4 ((below_drewN (Below.refl G wc) 1).trans hb4) ho4 HXS.out
            go_wp2_with fail
            go_roundw
            case rel =>
              refine ⟨i + 1, r + 1, _, by omega, by go_num, fin1, fin2, fun j y hj hy => ?_, .inr ⟨r, t + 1, G, _, hs0, rfl, by omega, by omega, by rw [HIR.out]; exact fin3⟩⟩
              by_cases hji : j = i
              · subst hji
                rw [HK.out] at hy
                injection hy with hy
                subst hy
                exact HZ2.out
              · exact HS.out j y (by omega) hy
            case measure => simp [intOf]; omega
      · have hz' : ((s.size : Int) != 2048) = true := by rw [bne_iff_ne]; omega
        have HN := Lib.hid (show splitOk N ss = false by unfold splitOk; rw [blks_no HK.out hz, Bool.and_false])
        clear hz
        go_wp2_with fail
        go_ret2
        exact SplitR.no HN.out rfl hbel
    · obtain rfl : len = i := by omega
      have hge : ¬ (len : Int) < (len : Int) := by omega
      have HA := Lib.hid (show blksOk ss = true from blks_all fun j s hj => HS.out j s (by have := (List.getElem?_eq_some_iff.1 hj).1; rw [HL.out] at this; exact this) hj)
      rcases hlast with ⟨h, _⟩ | ⟨r, t, G, p, hs0, rfl, ht1, ht2, hir, rfl, hG1, hG2, hp, hr⟩
      · omega
      · obtain ⟨go, capo, hv4, _, _, _⟩ := own_form hown (by omega)
        obtain ⟨g, cap, hpv, _, _, _⟩ := own_form hp (by omega)
        subst hv4 hpv
        have hrk : r < pkCount N ss.length := (count_lt hN1).2 (by rw [HL.out]; omega)
        have hcnt : pkCount N ss.length = r + 1 := count_eq hN1 (by rw [HL.out, Nat.succ_mul]; omega) (by rw [HL.out, Nat.succ_mul]; omega)
        have hr1 : r ≤ 100000 := by
          have : r * 1 ≤ r * N := Nat.mul_le_mul_left _ hN1
          omega
        have HRK := Lib.hid hrk
        have HCN := Lib.hid hcnt
        have HIR := Lib.hid hir
        have hla : LastAt N ss w wr (r * N + t) r t G (hs0 ++ [.slice (some ⟨g, 0, none⟩) t cap]) hs0 (.slice (some ⟨g, 0, none⟩) t cap) := ⟨rfl, rfl, hG1, hG2, hp, hr⟩
        have hit : len ≤ r * N + t := by omega
        clear hir hrk hcnt HS hp hr
        go_wp2_with fail
        go_loopw [] (fun wx => ∃ (t G g cap : Nat) (hs0 : List Value), 1 ≤ t ∧ t ≤ N ∧ len ≤ r * N + t ∧ wx.ownsRow w.heap.size 37 1 (.slice (some ⟨go, 0, none⟩) (r + 1) capo) (r + 1) (hs0 ++ [.slice (some ⟨g, 0, none⟩) t cap]) ∧ Below w.heap.size w wx ∧
            LastAt N ss w wx (r * N + t) r t G (hs0 ++ [.slice (some ⟨g, 0, none⟩) t cap]) hs0 (.slice (some ⟨g, 0, none⟩) t cap)) (fun wx => lastM N (.slice (some ⟨go, 0, none⟩) (r + 1) capo) wx)
        case atStart => exact ⟨t, G, g, cap, hs0, ht1, ht2, hit, hown, hbel, hla⟩
        case round =>
          clear hown hbel hla hit ht1 ht2 hG1 hG2
          obtain ⟨t, G, g, cap, hs0, ht1, ht2, hit, howo, hbelc, _, _, hG1, hG2, hp, hrows⟩ := hrel
          have hl0 := own_hl howo
          have HCR := Lib.hid (show (hs0 ++ [Value.slice (some ⟨g, 0, none⟩) t cap])[r]? = some (.slice (some ⟨g, 0, none⟩) t cap) by rw [List.getElem?_append_right (by omega), hl0]; simp)
          have c1 := (howo.cellAt r (by omega)).trans HCR.out
          have er : IntKind.i64.wrap (r : Int) = (r : Int) := IntWalk.i64_in _ (by omega)
          have er2 : (r : Int) + 1 - 1 = (r : Int) := by omega
          have er3 : (0 : Int) ≤ (r : Int) := by omega
          have er4 : (r : Int) < (r : Int) + 1 := by omega
          have er5 : (0 : Int) < (r : Int) + 1 := by omega
          by_cases htN : t < N
          · have htI : (t : Int) < (N : Int) := by omega
            have HXS := Lib.hid (show ss[r * N + t]?.getD zeroBlk = zeroBlk by rw [List.getElem?_eq_none (by rw [HL.out]; exact hit)]; rfl)
            have hpd := own_drewN hp 1
            have howd := own_drewN howo 1
            have hgo : go < wr.heap.size := (howo.lt go rfl).2
            have HMS := Lib.hid (lastM_eq (N := N) howo hl0)
            go_upto_region 13 with fail
            go_region_law (first
              | (go_simp; go_at_call 28; refine (rzero_any _).mono ?_; rintro e w5 ⟨rfl, hb5⟩; have hp5 := own_all hpd hb5; have ho5 := own_all howd hb5; have c5 := (ho5.cellAt r (by omega)).trans HCR.out; have hG5 := Nat.le_trans hG2 hb5.size; have hgo5 := (ho5.lt go rfl).2)
              | (refine step_app1 hp5 info_str Try.underlying37 rfl (by unfold maxLen; omega) (by omega) hG5 rfl rfl rfl (by rfl) (by rfl) (by rfl) ?_; intro v4 w4 hp4 hb4 hg4; have ho4 := own_grown ho5 hg4 (own_ne ho5 hp5 types_ne.symm); have c4 := (ho4.cellAt r (by omega)).trans HCR.out; have f4 := ho4.frozenAt r; obtain ⟨g4, cap4, hv4, hx1, hx2, hx3⟩ := own_form hp4 (Nat.succ_pos t); subst hv4))
            all_goals
              obtain ⟨fin1, fin2, fin3⟩ := last_step htN hl0 howo hbelc hG1 hG2 hrows hp4 ((below_drewN (Below.refl G wr) 1).trans ((hb5.mono hG2).trans hb4)) ho4 HXS.out
              have HME := Lib.hid (lastM_eq (N := N) fin1 hl0)
              go_wp2_with fail
              go_roundw
              case rel => exact ⟨t + 1, G, g4, cap4, hs0, by omega, by omega, by omega, fin1, fin2, fin3⟩
              case measure => rw [HME.out, HMS.out]; omega
          · obtain rfl : N = t := by omega
            have htI : ¬ (N : Int) < (N : Int) := by omega
            have hok : splitOk N ss = true := by unfold splitOk; rw [HA.out, sizedB_of (by omega) (by omega)]; rfl
            have hL : splitL N ss = pks N zeroBlk ss := by unfold splitL; rw [if_pos hok]; rfl
            have hE : splitE N ss = 0 := if_pos hok
            have hlenr : (pks N zeroBlk ss).length = r + 1 := by rw [pks_length, HCN.out]
            rw [pk_all] at hp
            have hall : RowsOf wr w.heap.size wr.heap.size 9 (hs0 ++ [.slice (some ⟨g, 0, none⟩) N cap]) ((pks N zeroBlk ss).map fun l => l.map Value.string) := by
              rw [← List.take_of_length_le (l := pks N zeroBlk ss) (i := r + 1) (by omega), pks_take HRK.out, List.map_append]
              refine (hrows.mono hG2).snoc ⟨?_, fun k hk => (hp.lt k hk).2⟩
              rw [List.length_map, pk_length]
              exact own_base hp hG1
            have hfin : SplitR N ss w (.returned (.tuple #[.slice (some ⟨go, 0, none⟩) (r + 1) capo, .int .i64 0])) wr := by
              refine ⟨hbelc, some ⟨go, 0, none⟩, capo, _, ?_, SlAt.of_own howo (howo.lt go rfl).2, ?_⟩
              · rw [hL, hE, hlenr]
              · rw [hL]; exact hall.slices
            have HF := Lib.hid hfin
            clear hfin hL hE hok hlenr hall
            go_wp2_with fail
            go_ret2
            exact HF.out

theorem rsplit_nil (N : Nat) (A : Option Addr) (c : Nat) (w : World) (hN1 : 1 ≤ N) (hN2 : N ≤ 1024) :
    Calls Try.prog 20 #[.int .i64 N, .slice A 0 c] w (SplitR N [] w) := by
  have C := Lib.hid (fun w => rsized_any N w)
  have hsz : sizedB N = true := sizedB_of (by omega) (by omega)
  rw [hsz] at C
  have hcnt : pkCount N 0 = 0 := count_eq hN1 (by omega) (by omega)
  have hok : splitOk N [] = true := by unfold splitOk; rw [hsz]; rfl
  have hL : splitL N [] = [] := by unfold splitL; rw [if_pos hok]; exact List.eq_nil_of_length_eq_zero (by rw [pks_length]; exact hcnt)
  have hE : splitE N [] = 0 := if_pos hok
  have hfin : SplitR N [] w (.returned (.tuple #[.slice (some ⟨w.heap.size, 0, none⟩) 0 0, .int .i64 0])) (w.alloc (.cells #[] 37)) := by
    refine ⟨(Below.refl _ _).alloc (Nat.le_refl _) _, some ⟨w.heap.size, 0, none⟩, 0, [], ?_, SlAt.nil _ _ _, ?_⟩
    · rw [hL, hE]; rfl
    · rw [hL]; exact ⟨rfl, fun i l hl => by simp at hl⟩
  have HF := Lib.hid hfin
  clear hfin hL hE hok hcnt hsz
  go_enter Try.func20, Try.ntmps20
  go_wp2_with fail
  refine (C.out _).mono ?_
  rintro e w1 ⟨rfl, rfl⟩
  go_wp2_with fail
  go_rounds 1
  go_wp2_with fail
  go_rounds 1
  go_wp2_with fail
  go_ret2
  exact HF.out
theorem rsplit_any (n : Int) (A : Option Addr) (c : Nat) (ss : List ByteArray) (w : World) (hs : SlAt w w.heap.size A (ss.map Value.string)) (hl : ss.length ≤ 100000) (hz : ∀ s ∈ ss, s.size ≤ maxLen) :
    Calls Try.prog 20 #[.int .i64 n, .slice A ss.length c] w (SplitR n ss w) := by
  cases h : sizedB n with
  | false => exact rsplit_size n A c ss w h
  | true =>
    obtain ⟨N, rfl, h1, h2⟩ := sized_nat h
    by_cases h0 : 0 < ss.length
    · exact rsplit_go N A c ss w h1 h2 hs hl h0 hz
    · obtain rfl : ss = [] := List.eq_nil_of_length_eq_zero (by omega)
      exact rsplit_nil N A c w h1 h2
end Go.Proofs.Yticmopgpfplbnaa
