/-
  The walk of the law PacketwriterReserved.
-/
import Derived.Test.YtdmdfpdigoijoaaPwFm
import Derived.Test.YtdmdfpdigoijoaaPwFi2
import Derived.Test.YtdmdfpdigoijoaaHeld
import Derived.Deep.Cut
import Derived.Deep.CutRange
namespace Go.Proofs.Ytdmdfpdigoijoaa
open Go.RowKit
set_option linter.unusedVariables false

/-- The control block, if there is to be one. -/
def CtlOf (cc : Bool) (ctl : ByteArray) : Prop := (cc = true ∧ blkOk ctl = true) ∨ (cc = false ∧ ctl.toList = [])
theorem lastL_lba {ba : Int} {l l' : List Pend} (h : l.map (·.lba) = l'.map (·.lba)) : lastL ba l = lastL ba l' := by
  have h1 := congrArg List.getLast? h
  rw [List.getLast?_map, List.getLast?_map] at h1
  unfold lastL
  cases h2 : l.getLast? <;> cases h3 : l'.getLast? <;> rw [h2, h3] at h1 <;> simp_all
/-- The first i of the reserved addresses have their blocks. -/
structure FlI (l : List Pend) (out : List Int) (i : Nat) : Prop where
  lba : l.map (·.lba) = out
  blk : ∀ (j : Nat) (x : Pend), l[j]? = some x → (j < i → blkOk x.blk = true) ∧ (i ≤ j → x.blk.toList = [])
theorem FlI.start (out : List Int) : FlI (moreP [] out [] out.length) out 0 := by
  refine ⟨by rw [moreP_lba]; rfl, fun j x hx => ⟨fun h => absurd h (by omega), fun _ => ?_⟩⟩
  have hm := List.mem_of_getElem? hx
  unfold moreP at hm
  simp only [List.nil_append] at hm
  obtain ⟨i, hi, rfl⟩ := List.mem_map.1 hm
  dsimp only
  rw [show (([] : List ByteArray)[i]?.getD blankS) = blankS by simp, ByteArray.toList_eq]
  rfl
theorem FlI.open_ {l : List Pend} {out : List Int} (h : FlI l out 0) : openL l = out := by
  unfold openL
  rw [List.filter_eq_self.2, h.lba]
  intro x hx
  obtain ⟨j, hj⟩ := List.getElem?_of_mem hx
  exact decide_eq_true ((h.blk j x hj).2 (Nat.zero_le _))
theorem FlI.get {l : List Pend} {out : List Int} {i : Nat} (h : FlI l out i) {j : Nat} {a : Int} (ha : out[j]? = some a) : ∃ x, l[j]? = some x ∧ x.lba = a := by
  have h1 := h.lba
  rw [← h1, List.getElem?_map] at ha
  exact Option.map_eq_some_iff.1 ha
theorem FlI.find {l : List Pend} {out : List Int} {i : Nat} (h : FlI l out i) (hp : out.Pairwise (· < ·)) {j : Nat} {a : Int} (ha : out[j]? = some a) : findP l a = (j : Int) := by
  obtain ⟨x, hx, hxa⟩ := h.get ha
  refine findIdx_hit hx hxa (fun i2 y hi hy => ?_)
  have h2 : out[i2]? = some y.lba := by rw [← h.lba, List.getElem?_map, hy]; rfl
  have h3 := List.pairwise_iff_getElem.1 hp i2 j (List.getElem?_eq_some_iff.1 h2).1 (List.getElem?_eq_some_iff.1 ha).1 hi
  rw [(List.getElem?_eq_some_iff.1 h2).2, (List.getElem?_eq_some_iff.1 ha).2] at h3
  omega
theorem FlI.fill {l : List Pend} {out : List Int} {i : Nat} (h : FlI l out i) (hp : out.Pairwise (· < ·)) {a : Int} (ha : out[i]? = some a) {b : ByteArray} (hb : blkOk b = true) : fillE l a b = 0 ∧ FlI (setL l a b) out (i + 1) := by
  have hf := h.find hp ha
  obtain ⟨x, hx, hxa⟩ := h.get ha
  have hbp : blkP l a = x.blk := by unfold blkP; rw [hf, Int.toNat_natCast, hx]; rfl
  refine ⟨?_, ?_, ?_⟩
  · unfold fillE
    rw [if_neg (by have := of_decide_eq_true hb; omega), if_neg (by omega), hbp, if_neg (by simp [(h.blk i x hx).2 (Nat.le_refl _)])]
  · unfold setL
    rw [hf, Int.toNat_natCast, List.map_set, h.lba]
    apply List.ext_getElem?
    intro j
    rw [List.getElem?_set]
    by_cases hj : i = j
    · subst hj
      rw [if_pos rfl, if_pos (List.getElem?_eq_some_iff.1 ha).1, ha]
    · rw [if_neg hj]
  · intro j y hy
    unfold setL at hy
    rw [hf, Int.toNat_natCast, List.getElem?_set] at hy
    by_cases hj : i = j
    · subst hj
      rw [if_pos rfl, if_pos (List.getElem?_eq_some_iff.1 hx).1] at hy
      injection hy with hy
      rw [← hy]
      exact ⟨fun _ => hb, fun h2 => absurd h2 (by omega)⟩
    · rw [if_neg hj] at hy
      have := h.blk j y hy
      exact ⟨fun h2 => this.1 (by omega), fun h2 => this.2 (by omega)⟩
theorem FlI.again {l : List Pend} {out : List Int} {i : Nat} (h : FlI l out (i + 1)) (hp : out.Pairwise (· < ·)) {a : Int} (ha : out[i]? = some a) {b : ByteArray} (hb : blkOk b = true) : fillE l a b = 5 := by
  have hf := h.find hp ha
  obtain ⟨x, hx, hxa⟩ := h.get ha
  have hbp : blkP l a = x.blk := by unfold blkP; rw [hf, Int.toNat_natCast, hx]; rfl
  unfold fillE
  rw [if_neg (by have := of_decide_eq_true hb; omega), if_neg (by omega), hbp, if_pos (blk_ne ((h.blk i x hx).1 (by omega)))]
theorem FlI.wok {st ba : Int} {l l' : List Pend} {out : List Int} {i : Nat} (h : FlI l out i) (hk : Wok st ba l') (hl : l'.map (·.lba) = out) : Wok st ba l := by
  have hmem : ∀ x ∈ l, ∃ y ∈ l', y.lba = x.lba := fun x hx => by
    have : x.lba ∈ l'.map (·.lba) := by rw [hl, ← h.lba]; exact List.mem_map_of_mem hx
    obtain ⟨y, hy, e⟩ := List.mem_map.1 this
    exact ⟨y, hy, e⟩
  refine ⟨hk.st0, hk.stba, hk.b8, hk.ba4, by rw [h.lba, ← hl]; exact hk.inc, fun x hx => ?_, fun x hx => ?_⟩
  · obtain ⟨y, hy, e⟩ := hmem x hx
    rw [← e]; exact hk.each y hy
  · obtain ⟨j, hj⟩ := List.getElem?_of_mem hx
    rcases Nat.lt_or_ge j i with h2 | h2
    · exact .inr ((h.blk j x hj).1 h2)
    · exact .inl ((h.blk j x hj).2 h2)
theorem FlI.done {l : List Pend} {out : List Int} (h : FlI l out out.length) : ∀ x ∈ l, blkOk x.blk = true := fun x hx => by
  obtain ⟨j, hj⟩ := List.getElem?_of_mem hx
  refine (h.blk j x hj).1 ?_
  have h1 := (List.getElem?_eq_some_iff.1 hj).1
  have h2 := congrArg List.length h.lba
  rw [List.length_map] at h2
  omega
theorem flW_length {gb m k : Nat} {st ba : Int} {l : List Pend} {ctl : ByteArray} (hm8 : (8 * m : Int) = ctlL st ba l + 1 - ba) (hk : k < m) : (flW gb ba (flAll st ba l ctl) m k).bl.length = 8 := by
  unfold flW
  dsimp only
  rw [List.length_take, List.length_drop, flAll_length]
  omega
theorem flW_seven {gb m k : Nat} {st ba : Int} {l : List Pend} {ctl : ByteArray} {cc : Bool} (h : Wok st ba l) (hm8 : (8 * m : Int) = ctlL st ba l + 1 - ba) (hk : k < m) (hcc : CtlOf cc ctl) : (flW gb ba (flAll st ba l ctl) m k).bl[7]? = some (if cc = true ∧ k + 1 = m then ctl else fillS 0) := by
  unfold flW
  dsimp only
  rw [List.getElem?_take, if_pos (by omega), List.getElem?_drop]
  have hb8 := h.b8
  split
  · rename_i hc
    have hcb : blkOk ctl = true := by
      rcases hcc with ⟨_, h2⟩ | ⟨h2, _⟩
      · exact h2
      · rw [h2] at hc; exact absurd hc.1 (by decide)
    rw [← flAll_last (l := l) h (blk_ne hcb)]
    congr 1
    omega
  · rename_i hc
    refine flAll_seven h (by omega) (by omega) ?_
    rcases hcc with ⟨h2, _⟩ | ⟨_, h2⟩
    · left
      have : ¬ k + 1 = m := fun h3 => hc ⟨h2, h3⟩
      omega
    · exact .inr h2
theorem flWs_get {gb m k : Nat} {ba : Int} {row : List ByteArray} (hk : k < m) : (flWs gb ba row m m)[k]? = some (flW gb ba row m k) := by
  unfold flWs
  rw [List.getElem?_map, List.getElem?_range hk]
  rfl
theorem base_wt (base0 g : Nat) (st ba : Int) (l : List Pend) (w : World) (h : WtAt w base0 g st ba l) :
    Calls Try.prog 40 #[.pointer (some ⟨g, 0, none⟩)] w fun e w' => e = .returned (.int .i64 ba) ∧ w = w' := by
  obtain ⟨A, c, hr, _⟩ := h
  exact base_any g st ba _ w hr
set_option maxRecDepth 100000 in
set_option maxHeartbeats 4000000 in
theorem reserved_walk (s x cn : Int) (cc : Bool) (w : World) (i0 : (Lit.int .u8 s).wf = true) (i1 : (Lit.int .u8 x).wf = true) (i2 : (Lit.int .u8 cn).wf = true) :
    Calls Try.prog 9 #[.int .u8 s, .int .u8 x, .int .u8 cn, .bool cc] w fun e w' => e = .returned (.bool true) ∧ Below w.heap.size w w' := by
  obtain ⟨hs0, hs1⟩ := wf_u8 i0
  obtain ⟨hx0, hx1⟩ := wf_u8 i1
  obtain ⟨hc0, hc1⟩ := wf_u8 i2
  clear i0 i1 i2
  obtain ⟨n, hn⟩ : ∃ n : Nat, (n : Int) = cn % 61 := ⟨(cn % 61).toNat, by omega⟩
  have hn60 : n ≤ 60 := by omega
  have htm : cn.tmod 61 = (n : Int) := by rw [Int.tmod_eq_emod_of_nonneg hc0]; exact hn.symm
  have htm2 : cn % 61 = (n : Int) := hn.symm
  clear hn
  have hw1 : IntKind.i64.wrap s = s := IntWalk.i64_in _ (by omega)
  have hw2 : IntKind.i64.wrap x = x := IntWalk.i64_in _ (by omega)
  have hw3 : IntKind.i64.wrap (s + x) = s + x := IntWalk.i64_in _ (by omega)
  have hw4 : IntKind.i64.wrap cn = cn := IntWalk.i64_in _ (by omega)
  go_enter Try.func9, Try.ntmps9
  go_wp2_with fail
  refine (awake_any _).mono ?_
  rintro e w0 ⟨rfl, hb0⟩
  go_wp2_with fail
  have hne : newE s (s + x) = 0 := by
    unfold newE
    rw [if_neg (by omega), if_neg]
    unfold baseOf
    omega
  have hbo : 0 ≤ baseOf s (s + x) ∧ baseOf s (s + x) ≤ 520 := by unfold baseOf; omega
  have HWK := Lib.hid (Wok.new hne)
  refine (new_ok s (s + x) w0 hne).mono ?_
  rintro e w1 ⟨rfl, hw1e⟩
  obtain ⟨ba, hba0⟩ : ∃ ba0, baseOf s (s + x) = ba0 := ⟨_, rfl⟩
  rw [hba0] at hw1e hbo HWK
  have hrow : RowAt w1 w0.heap.size 109 #[.int .i64 s, .int .i64 ba, .slice none 0 0] := by rw [hw1e]; exact RowAt.new _ _ _
  have hb1 : Below w.heap.size w w1 := by rw [hw1e]; exact hb0.alloc hb0.size _
  have hg0 : w.heap.size ≤ w0.heap.size := hb0.size
  obtain ⟨g, hg⟩ : ∃ g, w0.heap.size = g := ⟨_, rfl⟩
  rw [hg] at hrow hg0 ⊢
  have HR1 := Lib.hid hrow
  have HB1 := Lib.hid hb1
  clear hw1e hrow hb1 hg hne hba0 hw2 hw3 hb0
  go_wp2_with fail
  obtain ⟨out, hout, houtx⟩ := asgL_room (l := []) (n := n) HWK.out.st0 HWK.out.next.1 (by omega) (by show ba + 2 * (n : Int) + 9 ≤ 4096; omega)
  refine (reserve_any w.heap.size g s ba [] none 0 n w1 HR1.out (World.ownsRow_nil _ _ _ _) (by simp) HWK.out.st0 HWK.out.next.1 (by have := HWK.out.next.2.1; omega) (by omega) HB1.out.size).mono ?_
  rintro e w2 (⟨hno, _⟩ | ⟨out', A2, c2, hsome, rfl, hown2, hwt2, htw2⟩)
  · rw [hout] at hno; cases hno
  · rw [hout] at hsome
    injection hsome with hsome
    subst hsome
    obtain ⟨hol, hou, hop⟩ := asgL_spec hout
    have hb2 : Below w.heap.size w w2 := HB1.out.trans (htw2.toBelow HB1.out.size hg0 (by intro k hk; cases hk))
    obtain ⟨l, hl⟩ : ∃ l, moreP [] out [] out.length = l := ⟨_, rfl⟩
    have hfl : FlI l out 0 := by rw [← hl]; exact FlI.start out
    have hwk : Wok s ba l := by rw [← hl]; exact HWK.out.more hout (fun i hi => .inl (by rw [show (([] : List ByteArray)[i]?.getD blankS) = blankS by simp, ByteArray.toList_eq]; rfl))
    rw [hl] at hwt2
    have hlen : l.length = n := by have h1 := congrArg List.length hfl.lba; rw [List.length_map] at h1; omega
    rw [hol] at hown2 ⊢
    have HFL := Lib.hid hfl
    have HWK2 := Lib.hid hwk
    have HWT2 := Lib.hid hwt2
    have HO2 := Lib.hid hown2
    have HB2 := Lib.hid hb2
    have HLEN := Lib.hid hlen
    have HB1S := Lib.hid HB1.out.size
    have HOP := Lib.hid hop
    have HOL := Lib.hid hol
    have HOX : Hid (∀ a ∈ out, a ≤ ba + 2 * (n : Int)) := Lib.hid (fun a ha => houtx a ha)
    clear hfl hwk hl hwt2 hown2 hb2 hlen hop hol hou htw2 hout houtx HR1 HB1 HWK
    have COP := Lib.hid (open_any w.heap.size g s ba l w2 HWT2.out (by rw [HLEN.out]; omega))
    unfold OpenRes at COP
    rw [HFL.out.open_, HOL.out] at COP
    go_wp2_with fail
    refine COP.out.mono ?_
    rintro e w3 ⟨hb3, A3, c3, rfl, hown3⟩
    have HB3 := Lib.hid (HB2.out.trans (hb3.mono HB2.out.size))
    have HWT3 := Lib.hid (HWT2.out.below' hb3)
    have HO3 := Lib.hid (own_all HO2.out hb3)
    have CEQ := Lib.hid (eqints_same A2 A3 c2 c3 out w3 (SlAt.of_own' HO3.out (Nat.le_refl _)) (SlAt.of_own' hown3 (Nat.le_refl _)) (by rw [HOL.out]; omega))
    rw [HOL.out] at CEQ
    clear hb3 hown3 COP
    go_wp2_with fail
    refine CEQ.out.mono ?_
    rintro e w4 ⟨rfl, hb4⟩
    have HB4 := Lib.hid (HB3.out.trans (hb4.mono HB3.out.size))
    have HWT4 := Lib.hid (HWT3.out.below' hb4)
    have HO4 := Lib.hid (own_all HO3.out hb4)
    clear hb4 CEQ
    go_wp2_with fail
    refine (base_wt w.heap.size g s ba l w4 HWT4.out).mono ?_
    rintro e w' ⟨rfl, rfl⟩
    have hlast := HWK2.out.last
    have hnxt := HWK2.out.next
    have hctl := HWK2.out.ctl
    have hst0 := HWK2.out.st0
    have hstb := HWK2.out.stba
    have hll : lastL ba l ≤ ba + 2 * (n : Int) := by
      unfold lastL
      cases hq : l.getLast? with
      | none => dsimp only; omega
      | some y =>
        dsimp only
        exact HOX.out y.lba (by rw [← HFL.out.lba]; exact List.mem_map_of_mem (List.mem_of_getLast? hq))
    have CT := control_any w.heap.size g s ba l w4 HWT4.out (by rw [HLEN.out]; omega) hst0 (by omega) (by omega)
    obtain ⟨E, hE⟩ : ∃ E, ctlL s ba l = E := ⟨_, rfl⟩
    have HE := Lib.hid hE
    rw [hE] at CT hctl
    have hE2 : E ≤ ba + 135 := by
      have := HE.out
      unfold ctlL at this
      omega
    have hE8 : (E + 1 - s) % 8 = 0 := hctl.2.1
    have hE4 : 0 ≤ E ∧ E + 1 ≤ 4096 ∧ ba ≤ E := by omega
    have HCT := Lib.hid CT
    clear CT hE hlast hnxt hctl hll
    go_wp2_with fail
    refine HCT.out.mono ?_
    rintro e w' ⟨rfl, rfl⟩
    go_upto_if 64 with fail
    go_cut [14] from 64 to 65 (fun c wx => ∃ ctl : ByteArray, c = .string ctl ∧ CtlOf cc ctl ∧ Below w4.heap.size w4 wx)
    case first =>
      cases cc with
      | true =>
        go_wp2_with fail
        refine (block_any 33 (by omega) _).mono ?_
        rintro e w2 ⟨rfl, hb2⟩
        go_wp2_with fail
        go_meet
        exact ⟨fillS (UInt8.ofNat 33), rfl, .inl ⟨rfl, fillS_ok _⟩, hb2⟩
      | false =>
        go_wp2_with fail
        go_meet
        exact ⟨⟨#[]⟩, rfl, .inr ⟨rfl, by rw [ByteArray.toList_eq]⟩, Below.refl _ _⟩
    case rest =>
      obtain ⟨ctl, rfl, hcc, hbc⟩ := hcut
      have HCC := Lib.hid hcc
      have hcok : ctl.toList = [] ∨ blkOk ctl = true := by
        rcases hcc with ⟨_, h⟩ | ⟨_, h⟩
        · exact .inr h
        · exact .inl h
      have HCO := Lib.hid hcok
      have HWT5 := Lib.hid (HWT4.out.below' hbc)
      have HB5 := Lib.hid (HB4.out.trans (hbc.mono HB4.out.size))
      have HO5 := Lib.hid (own_all HO4.out hbc)
      have FL := Lib.hid (flush_any w.heap.size g s ba l ctl wc HWT5.out HWK2.out)
      clear hcc hbc hcok HCT HWT4 HB4 HO4
      by_cases hn0 : n = 0
      · subst hn0
        go_wp2_with fail
        refine FL.out.mono ?_
        rintro e w6 hfl
        obtain ⟨v6, c6, rfl, hb6⟩ : ∃ v6 c6, e = .returned (.tuple #[v6, .int .i64 c6]) ∧ Below w.heap.size w w6 := by
          rcases hfl with ⟨_, rfl, hb⟩ | ⟨_, _, _, _, gb, m, A, c, _, _, rfl, _, _, ht⟩
          · exact ⟨_, _, rfl, HB5.out.trans (hb.mono HB5.out.size)⟩
          · exact ⟨_, _, rfl, HB5.out.trans (ht.toBelow HB5.out.size hg0 (by intro k hk; cases hk))⟩
        clear hfl
        go_wp2_with fail
        refine wp_loop_rounds 1 ?_
        rw [rounds_succ]
        go_wp2_with fail
        go_ret
        exact ⟨rfl, hb6⟩
      · have hn0I : (0 : Int) < (n : Int) := by omega
        have hon : openL l ≠ [] := by rw [HFL.out.open_]; intro e; have := HOL.out; rw [e] at this; simp at this; omega
        have hfe : flE s ba l ctl = 8 := by
          unfold flE
          rw [if_neg, if_pos hon]
          rintro ⟨h1, h2⟩
          rcases HCO.out with h | h
          · exact h1 h
          · exact h2 (of_decide_eq_true h)
        have HON := Lib.hid hon
        have HFE := Lib.hid hfe
        clear hon hfe
        go_wp2_with fail
        refine FL.out.mono ?_
        rintro e w6 (⟨_, rfl, hb6⟩ | ⟨_, _, _, ho6, _⟩)
        · rw [HFE.out]
          have HWT6 := Lib.hid (HWT5.out.below' hb6)
          have HB6 := Lib.hid (HB5.out.trans (hb6.mono HB5.out.size))
          have HO6 := Lib.hid (own_all HO5.out hb6)
          clear hb6 FL HWT5 HB5 HO5
          go_wp2_with fail
          go_loopw [81] (fun i wr => ∃ (k : Nat) (l2 : List Pend), k ≤ n ∧ i = .int .i64 k ∧ Hid (FlI l2 out k) ∧ WtAt wr w.heap.size g s ba l2 ∧ wr.ownsRow w.heap.size 3 1 (.slice A2 n c2) n (intV out) ∧ Below w.heap.size w wr) (fun i _ => n - (intOf i).toNat)
          case atStart => exact ⟨0, l, Nat.zero_le _, rfl, HFL, HWT6.out, own_base HO6.out HB1S.out, HB6.out⟩
          case round =>
            obtain ⟨k, l2, hk, rfl, HF2, hwt, hown, hbel⟩ := hrel
            by_cases hkn : k < n
            · have hkI : (k : Int) < (n : Int) := by omega
              have h0k : (0 : Int) ≤ (k : Int) := by omega
              obtain ⟨a, ha⟩ : ∃ a, out[k]? = some a := ⟨out[k]'(by rw [HOL.out]; exact hkn), List.getElem?_eq_getElem _⟩
              have HA := Lib.hid ha
              have hsl := SlAt.of_own' hown (Nat.le_refl _)
              obtain ⟨b, off, hAA, hbk⟩ := hsl.intAddr (by rw [HOL.out]; omega)
              subst hAA
              have p0 := hsl.int rfl ha
              have HSL := Lib.hid hown
              clear ha hsl hown
              go_wp2_with fail
              rw [show (97 + (k : Int) % 26) = ((97 + k % 26 : Nat) : Int) by omega]
              refine (block_any (97 + k % 26) (by omega) _).mono ?_
              rintro e w7 ⟨rfl, hb7⟩
              obtain ⟨bk, hbk7⟩ : ∃ bk, fillS (UInt8.ofNat (97 + k % 26)) = bk := ⟨_, rfl⟩
              have hbok : blkOk bk = true := by rw [← hbk7]; exact fillS_ok _
              have HBOK := Lib.hid hbok
              rw [hbk7]
              obtain ⟨A7, c7, hr7, ho7⟩ := hwt.below' hb7
              have HR7 := Lib.hid hr7
              have HO7 := Lib.hid ho7
              have HSL7 := Lib.hid (own_all HSL.out hb7)
              have HB7 := Lib.hid (hbel.trans (hb7.mono hbel.size))
              have hl2 : l2.length = n := by have h1 := congrArg List.length HF2.out.lba; rw [List.length_map, HOL.out] at h1; exact h1
              have CF7 := Lib.hid (fill_any w.heap.size g s ba l2 A7 c7 a bk w7 HR7.out HO7.out (by omega))
              rw [hl2] at CF7 hr7 ho7
              clear hr7 ho7 hwt hbel hb7 hbok hbk7
              go_wp2_with fail
              refine CF7.out.mono ?_
              rintro e w8 (⟨hbad, _⟩ | ⟨_, rfl, hwt8, ht8⟩)
              · exact absurd (HF2.out.fill HOP.out HA.out HBOK.out).1 hbad
              · rw [← hl2] at ht8
                have HF3 := Lib.hid (HF2.out.fill HOP.out HA.out HBOK.out).2
                have HSL8 := Lib.hid (own_two HSL7.out ht8 HR7.out HO7.out (by decide) (by decide))
                have HB8 := Lib.hid (HB7.out.trans (ht8.toBelow HB7.out.size hg0 (fun k hk => (HO7.out.lt k hk).1)))
                clear ht8 CF7 HR7 HO7
                go_wp2_with fail
                refine (block_any 120 (by omega) _).mono ?_
                rintro e w9 ⟨rfl, hb9⟩
                obtain ⟨A9, c9, hr9, ho9⟩ := hwt8.below' hb9
                have HSL9 := Lib.hid (own_all HSL8.out hb9)
                have HB9 := Lib.hid (HB8.out.trans (hb9.mono HB8.out.size))
                have hl3 : (setL l2 a bk).length = n := by have h1 := congrArg List.length HF3.out.lba; rw [List.length_map, HOL.out] at h1; exact h1
                have hag := HF3.out.again HOP.out HA.out (fillS_ok (UInt8.ofNat 120))
                have CF9 := Lib.hid (fill_any w.heap.size g s ba (setL l2 a bk) A9 c9 a (fillS (UInt8.ofNat 120)) w9 hr9 ho9 (by omega))
                have HWT9 := Lib.hid (show WtAt w9 w.heap.size g s ba (setL l2 a bk) from ⟨A9, c9, hr9, ho9⟩)
                clear hr9 ho9 hwt8 hb9
                go_wp2_with fail
                refine CF9.out.mono ?_
                rintro e w10 (⟨_, rfl, hb10⟩ | ⟨hbad, _⟩)
                · rw [hag]
                  have HWT10 := Lib.hid (HWT9.out.below' hb10)
                  have HSL10 := Lib.hid (own_all HSL9.out hb10)
                  have HB10 := Lib.hid (HB9.out.trans (hb10.mono HB9.out.size))
                  clear hb10 CF9 hag HWT9 HSL9 HSL8
                  go_wp2_with fail
                  go_roundw
                  case rel => first | exact ⟨k + 1, setL l2 a bk, by omega, by go_num, HF3, HWT10.out, HSL10.out, HB10.out⟩ | exact ⟨_, ⟨k + 1, setL l2 a bk, by omega, by simp, HF3, HWT10.out, HSL10.out, HB10.out⟩, rfl⟩ | exact ⟨_, _, ⟨k + 1, setL l2 a bk, by omega, by simp, HF3, HWT10.out, HSL10.out, HB10.out⟩, rfl, rfl⟩
                  case measure => first | (simp [intOf]; done) | (simp [intOf]; omega)
                · exact absurd hbad (by rw [hag]; decide)
            · have hkn' : k = n := by omega
              subst hkn'
              have hge : ¬ (k : Int) < (k : Int) := by omega
              have hwk := HF2.out.wok HWK2.out HFL.out.lba
              have hctE : ctlL s ba l2 = E := by
                rw [← HE.out]
                unfold ctlL
                rw [lastL_lba (HF2.out.lba.trans HFL.out.lba.symm)]
              have hl2 : l2.length = k := by have h1 := congrArg List.length HF2.out.lba; rw [List.length_map, HOL.out] at h1; exact h1
              have ho2 : openL l2 = [] := open_nil (by rw [← HOL.out] at HF2; exact HF2.out.done)
              have hne : ¬ (l2 = [] ∧ ctl.toList = []) := by rintro ⟨rfl, _⟩; simp at hl2; omega
              have hfe : flE s ba l2 ctl = 0 := by
                unfold flE
                rw [if_neg, if_neg (by rw [ho2]; simp), if_neg hne, if_neg (by rw [hctE]; omega)]
                rintro ⟨h1, h2⟩
                rcases HCO.out with h | h
                · exact h1 h
                · exact h2 (of_decide_eq_true h)
              have FL2 := Lib.hid (flush_any w.heap.size g s ba l2 ctl wr hwt hwk)
              have HWK3 := Lib.hid hwk
              have HCE := Lib.hid hctE
              have HFE2 := Lib.hid hfe
              have HNE := Lib.hid hne
              clear hwk hctE hfe hne ho2 hwt hown HWT6 HO6
              go_wp2_with fail
              refine FL2.out.mono ?_
              rintro e w7 (⟨h1 | h1, _⟩ | ⟨_, _, _, _, gb, m, A7, c7, hm0, hm8, rfl, hwr7, hrow7, ht7⟩)
              · exact absurd HFE2.out h1
              · exact absurd h1 HNE.out
              · rw [HCE.out] at hm8 hrow7
                have HWT7 := Lib.hid (show WtAt w7 w.heap.size g s (E + 1) [] from ⟨none, 0, hrow7, World.ownsRow_nil _ _ _ _⟩)
                have HB7 := Lib.hid (hbel.trans (ht7.toBelow hbel.size hg0 (by intro k hk; cases hk)))
                have HWR7 := Lib.hid hwr7
                have COP := Lib.hid (open_any w.heap.size g s (E + 1) [] w7 HWT7.out (by simp))
                unfold OpenRes at COP
                rw [show openL [] = [] from rfl, List.length_nil] at COP
                clear hwr7 hrow7 ht7 hbel FL2
                go_wp2_with fail
                refine COP.out.mono ?_
                rintro e w8 ⟨hb8, A8, c8, rfl, _⟩
                have HWT8 := Lib.hid (HWT7.out.below' hb8)
                have HB8 := Lib.hid (HB7.out.trans (hb8.mono HB7.out.size))
                have HWR8 := Lib.hid ((HWR7.out.below hb8).mono hb8.size)
                clear hb8 COP
                go_wp2_with fail
                go_loopw [123] (fun i wr => ∃ j : Nat, j ≤ m ∧ i = .int .i64 j ∧ Below w8.heap.size w8 wr) (fun i _ => m - (intOf i).toNat)
                case atStart => exact ⟨0, Nat.zero_le _, rfl, Below.refl _ _⟩
                case round =>
                  obtain ⟨j, hj, rfl, hbj⟩ := hrel
                  obtain ⟨b7, off7, hA7, hb7⟩ := HWR8.out.one (by simp [flWs]; omega)
                  subst hA7
                  by_cases hjm : j < m
                  · have hjI : (j : Int) < (m : Int) := by omega
                    have h0j : (0 : Int) ≤ (j : Int) := by omega
                    have hm8' := hm8
                    rw [← HCE.out] at hm8'
                    have hlen8 := flW_length (gb := gb) (ctl := ctl) hm8' hjm
                    have hsev := flW_seven (gb := gb) HWK3.out hm8' hjm HCC.out
                    have hwj := HWR8.out.below hbj
                    obtain ⟨p0, p1, p2, p3⟩ := hwj.cells rfl (flWs_get (ba := ba) (row := flAll s ba l2 ctl) (gb := gb) hjm)
                    have hq := (hwj.2 _ (List.mem_of_getElem? (flWs_get (ba := ba) (row := flAll s ba l2 ctl) (gb := gb) hjm))).1
                    rw [hlen8] at p1
                    unfold flW at p0 p1 p2 p3
                    dsimp only at p0 p1 p2 p3
                    have HSV := Lib.hid hsev
                    have HSQ := Lib.hid hq
                    have hsize : w8.heap.size ≤ wr.heap.size := hbj.size
                    obtain ⟨sy, hsy⟩ : ∃ sy, decide (j + 1 = m) = sy := ⟨_, rfl⟩
                    rw [hsy] at p2
                    have HSY := Lib.hid hsy
                    have hsy2 : ((j : Int) == (m : Int) - 1) = sy := by rw [← hsy]; by_cases h : j + 1 = m <;> simp [h] <;> omega
                    have hsy3 : sy = true → ba + (j : Int) * 8 + 8 - 1 = E := by intro h; rw [h] at hsy; have := of_decide_eq_true hsy; omega
                    have HSY3 := Lib.hid hsy3
                    clear hsev hlen8 hq hsy hsy3
                    go_wp2_with fail
                    refine (block_any 0 (by omega) _).mono ?_
                    rintro e w9 ⟨rfl, hb9⟩
                    have hr9 := (RowAt.new wr _ _).below hb9 (by simp)
                    have hbw9 : Below wr.heap.size wr w9 := ((Below.refl wr.heap.size wr).alloc (Nat.le_refl _) _).trans (hb9.mono (by simp))
                    have hq9 := (HSQ.out.below (hbw9.mono hsize)).str rfl HSV.out
                    rw [show fillS (UInt8.ofNat 0) = fillS 0 from rfl]
                    have q0 := hr9.cell 0
                    have q1 := hr9.cell 1
                    have q2 := hr9.cell 2
                    have q3 := hr9.cell 3
                    simp only [List.getElem?_toArray] at q0 q1 q2 q3
                    have hbj9 : Below w8.heap.size w8 w9 := hbj.trans (hbw9.mono hsize)
                    clear hr9 hb9 hbw9 hbj hwj p0 p1 p2 p3 HSQ HSV
                    cases hsy4 : sy with
                    | false =>
                      rw [if_neg (by rintro ⟨_, h⟩; have h1 := HSY.out; rw [decide_eq_true h, hsy4] at h1; cases h1)] at hq9
                      subst hsy4
                      clear HSY HSY3 hsy2
                      go_wp2_with fail
                      exact ⟨⟨j + 1, by omega, by simp, hbj9⟩, by simp [intOf]; omega⟩
                    | true =>
                      have hE7 := HSY3.out hsy4
                      have hjl : j + 1 = m := by have h1 := HSY.out; rw [hsy4] at h1; exact of_decide_eq_true h1
                      have HJL := Lib.hid hjl
                      subst hsy4
                      cases cc with
                      | true =>
                        rw [if_pos ⟨rfl, hjl⟩] at hq9
                        clear hjl HSY HSY3 hsy2
                        go_wp2_with fail
                        exact ⟨⟨j + 1, by omega, by simp, hbj9⟩, by simp [intOf]; omega⟩
                      | false =>
                        rw [if_neg (by simp)] at hq9
                        clear hjl HSY HSY3 hsy2
                        go_wp2_with fail
                        exact ⟨⟨j + 1, by omega, by simp, hbj9⟩, by simp [intOf]; omega⟩
                  · have hjm' : j = m := by omega
                    subst hjm'
                    have hge2 : ¬ (j : Int) < (j : Int) := by omega
                    have hj1 : (1 : Int) ≤ (j : Int) := by omega
                    have hj0 : (0 : Int) < (j : Int) := by omega
                    have hj01 : (0 : Int) ≤ (j : Int) - 1 := by omega
                    have hj1l : (j : Int) - 1 < (j : Int) := by omega
                    have hwj1 : IntKind.i64.wrap ((j : Int) - 1) = (j : Int) - 1 := IntWalk.i64_in _ (by have := hE4; omega)
                    have hEw : IntKind.i64.wrap (E + 1) = E + 1 := IntWalk.i64_in _ (by have := hE4; omega)
                    have HWR9 := Lib.hid ((HWR8.out.below hbj).mono hbj.size)
                    have HP : Hid (∀ w', Below wr.heap.size wr w' → w'.cell? ⟨b7, off7 + (j - 1) * 4, none⟩ = some (.int .i64 (E + 1 - 8))) := Lib.hid (fun w' hb => by
                      have h1 := ((HWR9.out.below hb).cells rfl (flWs_get (ba := ba) (row := flAll s ba l2 ctl) (gb := gb) (show j - 1 < j by omega))).1
                      rw [h1]
                      unfold flW
                      dsimp only
                      congr 2
                      omega)
                    have HWT9 := Lib.hid (HWT8.out.below' hbj)
                    have CB := Lib.hid (fun w' (hb : Below wr.heap.size wr w') => base_wt w.heap.size g s (E + 1) [] w' (HWT9.out.below' hb))
                    have HB9 := Lib.hid (HB8.out.trans (hbj.mono HB8.out.size))
                    clear HWR9 HWT9 hbj hge2
                    go_upto_region 38 with fail
                    refine wp_region_held_drew (S := (fun w' => Below wr.heap.size wr w')) (by kernel_rfl) ((Below.refl wr.heap.size wr).drew) (fun hHeld => ?_)
                    refine wpAnyH_take (i := 0) (oi := ?o1) (v := ?v1) ?hi1 (by kernel_rfl) (by kernel_rfl) (by kernel_rfl) ?hq1 ?hy1 (by assumption) ?hr1
                    case hi1 => (simp only [List.getElem?_toArray, List.getElem?_cons_zero]; rfl)
                    case hy1 => ((refine .inl ⟨by rfl, ?_⟩); intro w hS; go_simp; (try with_reducible rfl))
                    case hq1 => exact fun _ _ _ h => h
                    (simp only [Act.put, List.setIfInBounds_toArray, List.set_cons_zero, List.set_cons_succ])
                    refine wpAnyH_take (i := 1) (oi := ?o2) (v := ?v2) ?hi2 (by kernel_rfl) (by kernel_rfl) (by kernel_rfl) ?hq2 ?hy2 (by assumption) ?hr2
                    case hi2 => (simp only [List.getElem?_toArray, List.getElem?_cons_succ, List.getElem?_cons_zero]; rfl)
                    case hy2 => ((refine .inl ⟨by rfl, ?_⟩); intro w hS; go_simp; (try with_reducible rfl))
                    case hq2 => exact fun _ _ _ h => h
                    (simp only [Act.put, List.setIfInBounds_toArray, List.set_cons_zero, List.set_cons_succ])
                    refine wpAnyH_take (i := 2) (oi := ?o3) (v := ?v3) ?hi3 (by kernel_rfl) (by kernel_rfl) (by kernel_rfl) ?hq3 ?hy3 (by assumption) ?hr3
                    case hi3 => (simp only [List.getElem?_toArray, List.getElem?_cons_succ, List.getElem?_cons_zero]; rfl)
                    case hy3 => ((refine .inl ⟨by rfl, ?_⟩); intro w hS; go_simp; (try with_reducible rfl))
                    case hq3 => exact fun _ _ _ h => h
                    (simp only [Act.put, List.setIfInBounds_toArray, List.set_cons_zero, List.set_cons_succ])
                    refine wpAnyH_take (i := 3) (oi := ?o4) (v := ?v4) ?hi4 (by kernel_rfl) (by kernel_rfl) (by kernel_rfl) ?hq4 ?hy4 (by assumption) ?hr4
                    case hi4 => (simp only [List.getElem?_toArray, List.getElem?_cons_succ, List.getElem?_cons_zero]; rfl)
                    case hy4 => ((refine .inl ⟨by rfl, ?_⟩); intro w hS; go_simp; (try with_reducible rfl))
                    case hq4 => exact fun _ _ _ h => h
                    (simp only [Act.put, List.setIfInBounds_toArray, List.set_cons_zero, List.set_cons_succ])
                    refine wpAnyH_take (i := 4) (oi := ?o5) (v := ?v5) ?hi5 (by kernel_rfl) (by kernel_rfl) (by kernel_rfl) ?hq5 ?hy5 (by assumption) ?hr5
                    case hi5 => (simp only [List.getElem?_toArray, List.getElem?_cons_succ, List.getElem?_cons_zero]; rfl)
                    case hy5 => ((refine .inl ⟨by rfl, ?_⟩); intro w hS; go_simp; (try with_reducible rfl))
                    case hq5 => exact fun _ _ _ h => h
                    (simp only [Act.put, List.setIfInBounds_toArray, List.set_cons_zero, List.set_cons_succ])
                    refine wpAnyH_take (i := 6) (oi := ?o6) (v := ?v6) ?hi6 (by kernel_rfl) (by kernel_rfl) (by kernel_rfl) ?hq6 ?hy6 (by assumption) ?hr6
                    case hi6 => (simp only [List.getElem?_toArray, List.getElem?_cons_succ, List.getElem?_cons_zero]; rfl)
                    case hy6 => ((refine .inl ⟨by rfl, ?_⟩); intro w hS; go_simp; (try with_reducible rfl))
                    case hq6 => exact fun _ _ _ h => h
                    (simp only [Act.put, List.setIfInBounds_toArray, List.set_cons_zero, List.set_cons_succ])
                    refine wpAnyH_take (i := 7) (oi := ?o7) (v := ?v7) ?hi7 (by kernel_rfl) (by kernel_rfl) (by kernel_rfl) ?hq7 ?hy7 (by assumption) ?hr7
                    case hi7 => (simp only [List.getElem?_toArray, List.getElem?_cons_succ, List.getElem?_cons_zero]; rfl)
                    case hy7 => ((refine .inl ⟨by rfl, ?_⟩); intro w hS; go_simp; (try with_reducible rfl))
                    case hq7 => exact fun _ _ _ h => h
                    (simp only [Act.put, List.setIfInBounds_toArray, List.set_cons_zero, List.set_cons_succ])
                    refine wpAnyH_take (i := 8) (oi := ?o8) (v := ?v8) ?hi8 (by kernel_rfl) (by kernel_rfl) (by kernel_rfl) ?hq8 ?hy8 (by assumption) ?hr8
                    case hi8 => (simp only [List.getElem?_toArray, List.getElem?_cons_succ, List.getElem?_cons_zero]; rfl)
                    case hy8 => ((refine .inl ⟨by rfl, ?_⟩); intro w hS; go_simp; (try with_reducible rfl))
                    case hq8 => exact fun _ _ _ h => h
                    (simp only [Act.put, List.setIfInBounds_toArray, List.set_cons_zero, List.set_cons_succ])
                    refine wpAnyH_take (i := 9) (oi := ?o9) (v := ?v9) ?hi9 (by kernel_rfl) (by kernel_rfl) (by kernel_rfl) ?hq9 ?hy9 (by assumption) ?hr9
                    case hi9 => (simp only [List.getElem?_toArray, List.getElem?_cons_succ, List.getElem?_cons_zero]; rfl)
                    case hy9 => ((refine .inl ⟨by rfl, ?_⟩); intro w hS; go_simp; (try with_reducible rfl))
                    case hq9 => exact fun _ _ _ h => h
                    (simp only [Act.put, List.setIfInBounds_toArray, List.set_cons_zero, List.set_cons_succ])
                    refine wpAnyH_take (i := 10) (oi := ?o10) (v := ?v10) ?hi10 (by kernel_rfl) (by kernel_rfl) (by kernel_rfl) ?hq10 ?hy10 (by assumption) ?hr10
                    case hi10 => (simp only [List.getElem?_toArray, List.getElem?_cons_succ, List.getElem?_cons_zero]; rfl)
                    case hy10 => ((refine .inl ⟨by rfl, ?_⟩); intro w hS; go_simp; (try with_reducible rfl))
                    case hq10 => exact fun _ _ _ h => h
                    (simp only [Act.put, List.setIfInBounds_toArray, List.set_cons_zero, List.set_cons_succ])
                    refine wpAnyH_take (i := 11) (oi := ?o11) (v := ?v11) ?hi11 (by kernel_rfl) (by kernel_rfl) (by kernel_rfl) ?hq11 ?hy11 (by assumption) ?hr11
                    case hi11 => (simp only [List.getElem?_toArray, List.getElem?_cons_succ, List.getElem?_cons_zero]; rfl)
                    case hy11 => ((refine .inl ⟨by rfl, ?_⟩); intro w hS; go_simp; (try with_reducible rfl))
                    case hq11 => exact fun _ _ _ h => h
                    (simp only [Act.put, List.setIfInBounds_toArray, List.set_cons_zero, List.set_cons_succ])
                    refine wpAnyH_take (i := 12) (oi := ?o12) (v := ?v12) ?hi12 (by kernel_rfl) (by kernel_rfl) (by kernel_rfl) ?hq12 ?hy12 (by assumption) ?hr12
                    case hi12 => (simp only [List.getElem?_toArray, List.getElem?_cons_succ, List.getElem?_cons_zero]; rfl)
                    case hy12 => ((refine .inl ⟨by rfl, ?_⟩); intro w hS; have q := HP.out _ hS; go_simp; (try with_reducible rfl))
                    case hq12 => exact fun _ _ _ h => h
                    (simp only [Act.put, List.setIfInBounds_toArray, List.set_cons_zero, List.set_cons_succ])
                    refine wpAnyH_take (i := 13) (oi := ?o13) (v := ?v13) ?hi13 (by kernel_rfl) (by kernel_rfl) (by kernel_rfl) ?hq13 ?hy13 (by assumption) ?hr13
                    case hi13 => (simp only [List.getElem?_toArray, List.getElem?_cons_succ, List.getElem?_cons_zero]; rfl)
                    case hy13 => ((refine .inl ⟨by rfl, ?_⟩); intro w hS; go_simp; (try with_reducible rfl))
                    case hq13 => exact fun _ _ _ h => h
                    (simp only [Act.put, List.setIfInBounds_toArray, List.set_cons_zero, List.set_cons_succ])
                    refine wpAnyH_ready (rs := [5]) (by kernel_rfl) (by simp) ?_
                    refine AllReadyH.cons rfl (fun K hK => ?_) AllReadyH.nil
                    go_simp
                    go_wp2_with (((with_reducible refine (CB.out _ hHeld).mono ?_); rintro e wx ⟨rfl, rfl⟩))
                    refine hK.out _ _ (hHeld) (fun hHeld1 => ?_)
                    clear hK K
                    (try simp only [Act.put, List.setIfInBounds_toArray, List.set_cons_zero, List.set_cons_succ])
                    clear hHeld; have hHeld := hHeld1; clear hHeld1
                    refine wpAnyH_take (i := 14) (oi := ?o14) (v := ?v14) ?hi14 (by kernel_rfl) (by kernel_rfl) (by kernel_rfl) ?hq14 ?hy14 (by assumption) ?hr14
                    case hi14 => (simp only [List.getElem?_toArray, List.getElem?_cons_succ, List.getElem?_cons_zero]; rfl)
                    case hy14 => ((refine .inl ⟨by rfl, ?_⟩); intro w hS; go_simp; (try with_reducible rfl))
                    case hq14 => exact fun _ _ _ h => h
                    (simp only [Act.put, List.setIfInBounds_toArray, List.set_cons_zero, List.set_cons_succ])
                    refine wpAnyH_take (i := 15) (oi := ?o15) (v := ?v15) ?hi15 (by kernel_rfl) (by kernel_rfl) (by kernel_rfl) ?hq15 ?hy15 (by assumption) ?hr15
                    case hi15 => (simp only [List.getElem?_toArray, List.getElem?_cons_succ, List.getElem?_cons_zero]; rfl)
                    case hy15 => ((refine .inl ⟨by rfl, ?_⟩); intro w hS; go_simp; (try with_reducible rfl))
                    case hq15 => exact fun _ _ _ h => h
                    (simp only [Act.put, List.setIfInBounds_toArray, List.set_cons_zero, List.set_cons_succ])
                    refine wpAnyH_take (i := 16) (oi := ?o16) (v := ?v16) ?hi16 (by kernel_rfl) (by kernel_rfl) (by kernel_rfl) ?hq16 ?hy16 (by assumption) ?hr16
                    case hi16 => (simp only [List.getElem?_toArray, List.getElem?_cons_succ, List.getElem?_cons_zero]; rfl)
                    case hy16 => ((refine .inl ⟨by rfl, ?_⟩); intro w hS; go_simp; (try with_reducible rfl))
                    case hq16 => exact fun _ _ _ h => h
                    (simp only [Act.put, List.setIfInBounds_toArray, List.set_cons_zero, List.set_cons_succ])
                    refine wpAnyH_done (by kernel_rfl) ?_ _
                    go_wp2_with fail
                    go_ret
                    exact ⟨rfl, HB9.out.trans (hHeld.mono HB9.out.size)⟩
        · exact absurd ho6 HON.out
end Go.Proofs.Ytdmdfpdigoijoaa
