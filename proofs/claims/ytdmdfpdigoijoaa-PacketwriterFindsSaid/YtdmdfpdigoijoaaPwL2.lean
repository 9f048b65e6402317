/-
  The walk of the law PacketwriterFinds.
-/
import Derived.Test.YtdmdfpdigoijoaaPwFi2
import Derived.Test.YtdmdfpdigoijoaaArgs
import Derived.Test.YtdmdfpdigoijoaaHeld
import Derived.Deep.Cut
import Derived.Deep.CutRange
namespace Go.Proofs.Ytdmdfpdigoijoaa
open Go.RowKit
set_option linter.unusedVariables false

theorem IsRow.outK {k : IntKind} {w : World} {a : Option Addr} {len cap : Nat} {zs : List Int} (h : IsRow k w a len cap zs) :
    ∃ xs : List Int, xs.length = len ∧ len ≤ maxLen ∧ SlAt w w.heap.size a (xs.map (Value.int k)) ∧ ∀ z ∈ xs, (Lit.int k z).wf = true := by
  rcases h with ⟨rfl, rfl, rfl, rfl⟩ | ⟨x, rfl, h1, h2, h3, h4, h5⟩
  · exact ⟨[], rfl, by unfold maxLen; omega, SlAt.nil _ _ _, fun z h => by simp at h⟩
  · refine ⟨zs.take len, by rw [List.length_take]; omega, by omega, ?_, fun z hz => h5 z (List.mem_of_mem_take hz)⟩
    by_cases h0 : 0 < (zs.take len).length
    · have hc : ∀ j u, ((zs.take len).map (Value.int k))[j]? = some u → w.cell? (x.add j) = some u := by
        intro j u hu
        rw [List.getElem?_map, List.getElem?_take] at hu
        split at hu
        · have hj : j < zs.length := by rw [List.length_take] at h0; omega
          rw [h4 j hj]
          rw [List.getElem?_eq_getElem hj] at hu
          simpa [List.getD_eq_getElem?_getD, List.getElem?_eq_getElem hj] using hu
        · simp at hu
      have hb : x.block < w.heap.size := by
        have h6 := hc 0 _ (List.getElem?_eq_getElem (by simpa using h0))
        have h7 := World.block_lt_of_cell? _ _ h6
        rwa [show (x.add 0).block = x.block by simp [Addr.add]] at h7
      exact SlAt.of_cells hb hc (by simpa using h0)
    · have : zs.take len = [] := List.eq_nil_of_length_eq_zero (by omega)
      rw [this]
      exact SlAt.nil _ _ _
theorem SlAt.u8 {w : World} {B : Nat} {A : Option Addr} {l : List Int} (h : SlAt w B A (l.map (Value.int .u8))) {b off : Nat} (hA : A = some ⟨b, off, none⟩) {k : Nat} {n : Int} (hk : l[k]? = some n) : w.cell? ⟨b, off + k, none⟩ = some (.int .u8 n) := by
  obtain ⟨b', off', e, _, hc⟩ := h k (.int .u8 n) (by simp [hk])
  rw [hA] at e
  injection e with e
  injection e with e1 e2 _
  subst e1 e2
  exact hc
/-- The control block, if there is to be one. -/
def CtlOf (cc : Bool) (ctl : ByteArray) : Prop := (cc = true ∧ blkOk ctl = true) ∨ (cc = false ∧ ctl.toList = [])
set_option maxRecDepth 100000 in
set_option maxHeartbeats 4000000 in
theorem finds_walk (s x : Int) (A : Option Addr) (len cap : Nat) (zs : List Int) (cc : Bool) (w : World) (i0 : (Lit.int .u8 s).wf = true) (i1 : (Lit.int .u8 x).wf = true) (i2 : IsRow .u8 w A len cap zs) :
    Calls Try.prog 4 #[.int .u8 s, .int .u8 x, .slice A len cap, .bool cc] w fun e w' => e = .returned (.bool true) ∧ Below w.heap.size w w' := by
  obtain ⟨hs0, hs1⟩ := wf_u8 i0
  obtain ⟨hx0, hx1⟩ := wf_u8 i1
  obtain ⟨xs, hxl, _, hxs, hxw⟩ := i2.outK
  have HXS := Lib.hid hxs
  have HXL := Lib.hid hxl
  have HXW : Hid (∀ z ∈ xs, 0 ≤ z ∧ z ≤ 255) := Lib.hid (fun z hz => wf_u8 (hxw z hz))
  clear i0 i1 i2 hxl hxs hxw
  go_enter Try.func4, Try.ntmps4
  go_wp2_with fail
  refine (awake_any _).mono ?_
  rintro e w0 ⟨rfl, hb0⟩
  by_cases hl6 : 6 < len
  · have hl6I : (6 : Int) < (len : Int) := by omega
    go_wp2_with fail
    go_ret
    exact ⟨rfl, hb0⟩
  · have hl6I : ¬ (6 : Int) < (len : Int) := by omega
    have hw1 : IntKind.i64.wrap s = s := IntWalk.i64_in _ (by omega)
    have hw2 : IntKind.i64.wrap x = x := IntWalk.i64_in _ (by omega)
    have hw3 : IntKind.i64.wrap (s + x) = s + x := IntWalk.i64_in _ (by omega)
    go_wp2_with fail
    have hne : newE s (s + x) = 0 := by
      unfold newE
      rw [if_neg (by omega), if_neg]
      unfold baseOf
      omega
    have hbo : 0 ≤ baseOf s (s + x) ∧ baseOf s (s + x) ≤ 520 := by unfold baseOf; omega
    have HWK := Lib.hid (Wok.new hne)
    refine (new_ok s (s + x) w0 hne).mono ?_
    rintro e w1 ⟨rfl, hw1e⟩
    obtain ⟨ba0, hba0⟩ : ∃ ba0, baseOf s (s + x) = ba0 := ⟨_, rfl⟩
    rw [hba0] at hw1e hbo HWK
    have hrow : RowAt w1 w0.heap.size 109 #[.int .i64 s, .int .i64 ba0, .slice none 0 0] := by rw [hw1e]; exact RowAt.new _ _ _
    have hb1 : Below w.heap.size w w1 := by rw [hw1e]; exact hb0.alloc hb0.size _
    have hg0 : w.heap.size ≤ w0.heap.size := hb0.size
    obtain ⟨g, hg⟩ : ∃ g, w0.heap.size = g := ⟨_, rfl⟩
    rw [hg] at hrow hg0 ⊢
    have HS0 : Hid (FiS w g s ba0 [] [] (.slice none 0 0) [] (.slice none 0 0) [] (.slice none 0 0) w1) := Lib.hid ⟨hb1, hg0, ⟨none, 0, hrow, World.ownsRow_nil _ _ _ _⟩, World.ownsRow_nil _ _ _ _, World.ownsRow_nil _ _ _ _, World.ownsRow_nil _ _ _ _, fun k h => by cases h⟩
    have HP0 : Hid (FiP s ba0 [] [] []) := Lib.hid (FiP.start hbo.1)
    clear hw1e hrow hb1 hg hne hba0 hw1 hw2 hw3
    go_wp2_with fail
    have HW0 := Lib.hid hb0
    clear hb0
    go_loopw [11, 12, 13, 49] (fun vI vA vB i wr => ∃ (r : Nat) (ba : Int) (img : Img) (At : List Int) (Bl : List ByteArray), r ≤ 2 ∧ i = .int .i64 r ∧ 0 ≤ ba ∧ ba ≤ 520 + 140 * (r : Int) ∧ Hid (FiS w g s ba [] img vI At vA Bl vB wr) ∧ Hid (FiP s ba img At Bl) ∧ Hid (Wok s ba []) ∧ At.length ≤ 100 * r) (fun _ _ _ i _ => 2 - (intOf i).toNat)
    case atStart => exact ⟨0, ba0, [], [], [], by omega, rfl, hbo.1, by omega, HS0, HP0, HWK, by simp⟩
    case round =>
      clear HS0 HP0 HWK
      obtain ⟨r, ba, img, At, Bl, hr, rfl, hba0, hba1, HS, HP, HK, hAl⟩ := hrel
      obtain ⟨AI, cI, hvI⟩ := own_slice' HS.out.im
      obtain ⟨AA, cA, hvA⟩ := own_slice' HS.out.at_
      obtain ⟨AB, cB, hvB⟩ := own_slice' HS.out.bl
      subst hvI hvA hvB
      obtain ⟨lI, hlI⟩ : ∃ lI, img.length = lI := ⟨_, rfl⟩
      have HLI := Lib.hid hlI
      rw [hlI] at HS
      have hBl : Bl.length = At.length := HP.out.len.symm
      obtain ⟨lA, hlA⟩ : ∃ lA, At.length = lA := ⟨_, rfl⟩
      have HLA := Lib.hid hlA
      rw [hBl, hlA] at HS
      have HLB : Hid (Bl.length = lA) := Lib.hid (by rw [hBl, hlA])
      rw [hlI, hlA, hBl, hlA]
      rw [hlA] at hAl
      clear hlI hlA hBl
      by_cases hr2 : r < 2
      · have hr2I : (r : Int) < 2 := by omega
        have h0r : (0 : Int) ≤ (r : Int) := by omega
        obtain ⟨wo, hwo⟩ : ∃ wo : World, wo = wr := ⟨_, rfl⟩
        subst hwo
        go_wp2_with fail
        go_loopw [12, 13, 54] (fun vA vB i wr => ∃ (j : Nat) (l : List Pend), j ≤ len ∧ i = .int .i64 j ∧ Hid (FiS w g s ba l img (.slice AI lI cI) (At ++ l.map (·.lba)) vA (Bl ++ l.map (·.blk)) vB wr) ∧ Hid (Wok s ba l) ∧ Hid (∀ x ∈ l, blkOk x.blk = true) ∧ nextL ba l ≤ ba + 20 * (j : Int) ∧ l.length ≤ 9 * j) (fun _ _ i _ => len - (intOf i).toNat)
        case atStart => exact ⟨0, [], Nat.zero_le _, rfl, Lib.hid (by simpa using HS.out), HK, Lib.hid (fun x hx => (List.not_mem_nil hx).elim), by show ba ≤ _; omega, by simp⟩
        case round =>
          obtain ⟨j, l, hj, rfl, HS1, HK1, HB1, hnx, hll⟩ := hrel
          obtain ⟨A4, c4, hv4⟩ := own_slice' HS1.out.at_
          obtain ⟨A5, c5, hv5⟩ := own_slice' HS1.out.bl
          subst hv4 hv5
          have hla : (At ++ l.map (·.lba)).length = lA + l.length := by rw [List.length_append, List.length_map, HLA.out]
          have hlb : (Bl ++ l.map (·.blk)).length = lA + l.length := by rw [List.length_append, List.length_map, HLB.out]
          obtain ⟨nL, hnL⟩ : ∃ nL, l.length = nL := ⟨_, rfl⟩
          have HNL := Lib.hid hnL
          rw [hnL] at hla hlb hll
          rw [hla, hlb] at HS1 ⊢
          clear hla hlb hnL
          have HS1a : Hid (FiS w g s ba l img (.slice AI lI cI) (At ++ l.map (·.lba)) (.slice A4 (lA + nL) c4) (Bl ++ l.map (·.blk)) (.slice A5 (lA + nL) c5) wr) := HS1
          clear HS1
          by_cases hlt : j < len
          · obtain ⟨n, hn⟩ : ∃ n, xs[j]? = some n := ⟨xs[j]'(by rw [HXL.out]; exact hlt), List.getElem?_eq_getElem _⟩
            obtain ⟨hn0, hn1⟩ := HXW.out n (List.mem_of_getElem? hn)
            obtain ⟨bz, offz, hAz, hbz, _⟩ := HXS.out.one (by rw [List.length_map, HXL.out]; omega)
            subst hAz
            have qz := (HXS.out.below HS1a.out.bel).u8 rfl hn
            have hltI : (j : Int) < (len : Int) := by omega
            have h0j : (0 : Int) ≤ (j : Int) := by omega
            have hwn : IntKind.i64.wrap n = n := IntWalk.i64_in _ (by omega)
            obtain ⟨m, hm⟩ : ∃ m : Nat, (m : Int) = n % 10 := ⟨(n % 10).toNat, by omega⟩
            have hm9 : m ≤ 9 := by omega
            have htm : n.tmod 10 = (m : Int) := by rw [Int.tmod_eq_emod_of_nonneg hn0]; exact hm.symm
            have htm2 : n % 10 = (m : Int) := hm.symm
            clear hn hm
            obtain ⟨wm, hwm⟩ : ∃ wm : World, wm = wr := ⟨_, rfl⟩
            subst hwm
            go_wp2_with fail
            clear qz htm htm2 hwn
            go_loopw [17, 62] (fun vl i wr => ∃ (k : Nat) (L : List ByteArray), k ≤ m ∧ i = .int .i64 k ∧ wr.ownsRow wm.heap.size 9 1 vl k (strV L) ∧ Hid (∀ b ∈ L, blkOk b = true) ∧ Below wm.heap.size wm wr) (fun _ i _ => m - (intOf i).toNat)
            case atStart => exact ⟨0, [], Nat.zero_le _, rfl, World.ownsRow_nil _ _ _ _, Lib.hid (fun x hx => (List.not_mem_nil hx).elim), Below.refl _ _⟩
            case round =>
              obtain ⟨k, L, hk, rfl, hown, HLb, hbel⟩ := hrel
              obtain ⟨A6, c6, hv6⟩ := own_slice' hown
              subst hv6
              by_cases hkm : k < m
              · have hkmI : (k : Int) < (m : Int) := by omega
                have h0k : (0 : Int) ≤ (k : Int) := by omega
                have hj6 : j ≤ 6 := by omega
                go_wp2_with fail
                obtain ⟨C, hC⟩ : ∃ C : Nat, (97 + (7 * (r : Int) + 3 * (j : Int) + (k : Int)) % 26) = (C : Int) := ⟨(97 + (7 * (r : Int) + 3 * (j : Int) + (k : Int)) % 26).toNat, by omega⟩
                have hC8 : C < 128 := by omega
                rw [hC]
                refine (block_any C hC8 _).mono ?_
                rintro e w2 ⟨rfl, hb2⟩
                have hown2 := own_all hown hb2
                have hbel2 := hbel.trans (hb2.mono hbel.size)
                have HL2 : Hid (∀ b ∈ L ++ [fillS (UInt8.ofNat C)], blkOk b = true) := Lib.hid (fun b hb => by
                  rcases List.mem_append.1 hb with hb | hb
                  · exact HLb.out b hb
                  · obtain rfl := List.mem_singleton.1 hb; exact fillS_ok _)
                clear hown hbel hb2 hC
                generalize fillS (UInt8.ofNat C) = bb at *
                go_wp2_with (at_builtin; refine wpList_app1 hown2 info_str Try.underlying22 rfl (by unfold maxLen; omega) (by omega) hbel2.size rfl rfl rfl (by rfl) (by rfl) ?_; intro v3 w3 hown3 hb3 _)
                go_roundw
                case rel => exact ⟨k + 1, L ++ [bb], by omega, by go_num, by rw [strV_append]; exact hown3, HL2, hbel2.trans hb3⟩
                case measure => simp [intOf]; omega
              · have hkm2 : k = m := by omega
                subst hkm2
                have hge : ¬ (k : Int) < (k : Int) := by omega
                have hLm : L.length = k := by have := hown.1; rw [strV_length] at this; omega
                have HLM := Lib.hid hLm
                have HSr := Lib.hid (HS1a.out.below hbel)
                obtain ⟨Al, cl, hrow, hpd⟩ := HSr.out.wt
                have hnl := HNL.out
                have hnx' := HK1.out.next
                have hst0 := HK1.out.st0
                obtain ⟨out, hout, houtx⟩ := asgL_room (n := k) hst0 hnx'.1 (by omega) (by omega)
                have CA := append_any w.heap.size g s ba l A6 Al c6 cl L wr (SlAt.of_own' hown (Nat.le_refl _)) (by omega) (List.all_eq_true.2 HLb.out) hrow hpd (by omega) hst0 hnx'.1 (by omega) (fun o ho => by have := (asgL_spec ho).1; exact this) HSr.out.bel.size (fun b off hA => by
                  subst hA
                  exact ⟨own_row_ne hown hrow (by decide) b rfl, own_ne hown hpd (by decide) b rfl⟩)
                unfold AppRes at CA
                rw [hLm, hout] at CA
                have HCA := Lib.hid CA
                have hol : out.length = k := (asgL_spec hout).1
                have HRP := Lib.hid (And.intro hrow (And.intro hpd (And.intro hown houtx)))
                have HOL := Lib.hid hol
                have HAS := Lib.hid hout
                have hown0 := Lib.hid hown
                clear CA hrow hpd hown houtx hol hout hLm hnl hnx' hst0 hbel
                go_wp2_with fail
                refine HCA.out.mono ?_
                rintro e w2 (⟨hno, _⟩ | ⟨out', A7, c7, hsome, rfl, hown7, hwt7, htw7⟩)
                · cases hno
                · injection hsome with hsome
                  subst hsome
                  obtain ⟨hrow, hpd, hown, houtx⟩ := HRP.out
                  have HS7 := Lib.hid (HSr.out.two hrow hpd htw7 hwt7)
                  have hown27 := own_two hown htw7 hrow hpd (by decide) (by decide)
                  have HWB := Lib.hid (htw7.size)
                  rw [HOL.out] at hown7 ⊢
                  have HO7 := Lib.hid hown7
                  have HL7 := Lib.hid hown27
                  clear hrow hpd hown hwt7 htw7 hown7 hown27 HRP HCA
                  obtain ⟨l2, hl2⟩ : ∃ l2, moreP l out L out.length = l2 := ⟨_, rfl⟩
                  have HLO : Hid (L.length = out.length) := Lib.hid (by rw [HLM.out, HOL.out])
                  have HE1 : Hid (At ++ l2.map (·.lba) = (At ++ l.map (·.lba)) ++ out) := Lib.hid (by rw [← hl2, moreP_lba, List.append_assoc])
                  have HE2 : Hid (Bl ++ l2.map (·.blk) = (Bl ++ l.map (·.blk)) ++ L) := Lib.hid (by rw [← hl2, moreP_blk l out L HLO.out, List.append_assoc])
                  have HK2 : Hid (Wok s ba l2) := Lib.hid (by rw [← hl2]; exact HK1.out.more HAS.out (fun i hi => .inr (by
                    rw [List.getElem?_eq_getElem (by rw [HLO.out]; exact hi), Option.getD_some]
                    exact HLb.out _ (List.getElem_mem _))))
                  have HB2 : Hid (∀ x ∈ l2, blkOk x.blk = true) := Lib.hid (by rw [← hl2]; exact moreP_ok HLO.out HB1.out HLb.out)
                  have HNX : Hid (nextL ba l2 ≤ ba + 20 * ((j : Int) + 1)) := Lib.hid (by
                    rw [← hl2]
                    have := nextL_more (ba := ba) (l := l) (out := out) (bl := L) (B := ba + 20 * ((j : Int) + 1) - 1) (by omega) (fun x hx => by have := houtx x hx; omega)
                    omega)
                  have HLL2 : Hid (l2.length ≤ 9 * (j + 1)) := Lib.hid (by rw [← hl2, moreP_length, HOL.out, HNL.out]; omega)
                  have HLA7 : Hid ((At ++ l.map (·.lba)).length = lA + nL) := Lib.hid (by rw [List.length_append, List.length_map, HLA.out, HNL.out])
                  have HLB7 : Hid ((Bl ++ l.map (·.blk)).length = lA + nL) := Lib.hid (by rw [List.length_append, List.length_map, HLB.out, HNL.out])
                  rw [hl2] at HS7
                  clear hl2 houtx
                  go_wp2_with (first
                    | (at_builtin; refine wpList_appX (s := .tmp 95) (x := .tmp 96) HS7.out.at_ info_int Try.underlying38 rfl (by decide) (by rw [intV_length, HOL.out, Nat.mul_one]) (SlAt.of_own' HO7.out (Nat.le_refl _)) (oneCell_int _) (by unfold maxLen; rw [HLA7.out]; omega) (by rw [HLA7.out]; omega) HS7.out.bel.size rfl rfl (by rfl) (by rfl) ?_; intro v8 w8 hown8 hg8 _; have HS8 := Lib.hid (HS7.out.grownA (at1 := At ++ l2.map (·.lba)) (vA1 := v8) hg8 (by rw [HE1.out, intV_append _ out, List.length_append, HOL.out]; exact hown8)); have HL8 := Lib.hid (own_grown HL7.out hg8 (own_ne HL7.out HS7.out.at_ (by decide))); clear hown8 hg8)
                    | (at_builtin; refine wpList_appX (s := .tmp 98) (x := .tmp 99) HS8.out.bl info_str Try.underlying22 rfl (by decide) (by rw [strV_length, HLM.out, Nat.mul_one]) (SlAt.of_own' HL8.out (Nat.le_refl _)) (strV_one _) (by unfold maxLen; rw [HLB7.out]; omega) (by rw [HLB7.out]; omega) HS8.out.bel.size rfl rfl (by rfl) (by rfl) ?_; intro v9 w9 hown9 hg9 hne9; have HS9 := Lib.hid (HS8.out.grownB (bl1 := Bl ++ l2.map (·.blk)) (vB1 := v9) hg9 (by rw [HE2.out, strV_append _ L, List.length_append, HLM.out]; exact hown9) hne9); clear hown9 hg9 hne9))
                  go_roundw
                  case rel => exact ⟨j + 1, l2, hlt, by go_num, HS9, HK2, HB2, by have := HNX.out; omega, HLL2.out⟩
                  case measure => simp [intOf]; omega
          · have hjl : j = len := by omega
            subst hjl
            have hge : ¬ (j : Int) < (j : Int) := by omega
            have hlast := HK1.out.last
            have hnxt := HK1.out.next
            have hctl := HK1.out.ctl
            have hst0 := HK1.out.st0
            have hstb := HK1.out.stba
            have CT := control_any w.heap.size g s ba l wr HS1a.out.wt (by rw [HNL.out]; omega) hst0 (by omega) (by omega)
            obtain ⟨E, hE⟩ : ∃ E, ctlL s ba l = E := ⟨_, rfl⟩
            have HE := Lib.hid hE
            rw [hE] at CT hctl
            have hE2 : E ≤ ba + 135 := by
              have := HE.out
              unfold ctlL at this
              omega
            have hE4 : 0 ≤ E ∧ E + 1 ≤ 4096 := by omega
            have HCT := Lib.hid CT
            clear CT hE hlast hnxt hstb
            go_wp2_with fail
            refine HCT.out.mono ?_
            rintro e w' ⟨rfl, rfl⟩
            go_upto_if 104 with fail
            go_cut [22] from 104 to 105 (fun c wx => ∃ ctl : ByteArray, c = .string ctl ∧ CtlOf cc ctl ∧ Below wr.heap.size wr wx)
            case first =>
              cases cc with
              | true =>
                go_wp2_with fail
                refine (block_any 33 (by omega) _).mono ?_
                rintro e w2 ⟨rfl, hb2⟩
                go_wp2_with fail
                go_meet
                exact ⟨fillS (UInt8.ofNat 33), rfl, .inl ⟨rfl, fillS_ok _⟩, hb2⟩
              | false =>
                go_wp2_with fail
                go_meet
                exact ⟨⟨#[]⟩, rfl, .inr ⟨rfl, by rw [ByteArray.toList_eq]⟩, Below.refl _ _⟩
            case rest =>
              obtain ⟨ctl, rfl, hcc, hbc⟩ := hcut
              have HCC := Lib.hid hcc
              have HSc := Lib.hid (HS1a.out.below hbc)
              have hcok : ctl.toList = [] ∨ blkOk ctl = true := by
                rcases hcc with ⟨_, h⟩ | ⟨_, h⟩
                · exact .inr h
                · exact .inl h
              have HCO := Lib.hid hcok
              have FL := Lib.hid (flush_any w.heap.size g s ba l ctl wc HSc.out.wt HK1.out)
              clear hcc hbc hcok
              go_wp2_with fail
              refine FL.out.mono ?_
              rintro e w2 hfl
              obtain ⟨ws, A7, c7, R, ba2, rfl, hwr, hS2, hP2, hK2, hon, hcu, hn4, hwl, hwx, hRE, hba2, hba3⟩ := fi_flush HSc.out HP.out HK1.out HB1.out HCO.out (by rw [HE.out]; omega) hfl
              rw [HE.out] at hRE hba3
              obtain ⟨lw, hlw⟩ : ∃ lw, ws.length = lw := ⟨_, rfl⟩
              have HLW := Lib.hid hlw
              have CO := Lib.hid (fun w s h => once_any AI A7 cI c7 img ws w s h (by rw [HLI.out]; have := HP.out.il; rw [HLI.out] at this; omega) (by omega) (fun x hx => by have := hwx x hx; omega))
              have CR := Lib.hid (fun w s h => recordOwn_any AI A7 cI c7 img ws w s h (by rw [HLI.out]; have := HP.out.il; rw [HLI.out] at this; omega) (by omega) (fun x hx => by have := hwx x hx; omega) (by omega))
              unfold CutOwn at CR
              rw [hon] at CO
              rw [hcu] at CR
              rw [HLI.out, hlw] at CO CR
              have him1 := hS2.im
              rw [HLI.out] at him1
              have him2 : SlAt w2 w2.heap.size AI (strV img) := SlAt.of_own' him1 (Nat.le_refl _)
              have HX2 := Lib.hid (And.intro hwr him2)
              have HS2 := Lib.hid hS2
              have HP2 := Lib.hid hP2
              have HK2 := Lib.hid hK2
              have HRE := Lib.hid hRE
              have HRL : Hid ((R.length : Int) ≤ ba2) := Lib.hid hP2.il
              rw [hlw]
              clear hfl hwr him1 him2 hS2 hP2 hK2 hon hcu hn4 hlw hwx hRE FL
              go_wp2_with fail
              refine (CO.out _ HX2.out.2 HX2.out.1).mono ?_
              rintro e w3 ⟨rfl, hb3⟩
              have HX3 := Lib.hid (And.intro ((HX2.out.1.below hb3).mono hb3.size) ((HX2.out.2.below hb3).mono hb3.size))
              have HS3 := Lib.hid (HS2.out.below hb3)
              clear hb3
              go_wp2_with fail
              refine (CR.out _ HX3.out.2 HX3.out.1).mono ?_
              rintro e w4 ⟨hb4, A8, c8, rfl, hown8⟩
              have HS4 := Lib.hid (HS3.out.image hb4 hown8)
              obtain ⟨lR, hlR⟩ : ∃ lR, R.length = lR := ⟨_, rfl⟩
              have HLR := Lib.hid hlR
              rw [show ((R, (0 : Int)) : List ByteArray × Int).1.length = lR from hlR]
              have hlR4 : (lR : Int) ≤ ba2 := by rw [← hlR]; exact HRL.out
              have hrel8 : FiS w g s ba2 [] R (.slice A8 lR c8) (At ++ l.map (·.lba)) (.slice A4 (lA + nL) c4) (Bl ++ l.map (·.blk)) (.slice A5 (lA + nL) c5) w4 := by rw [← hlR]; exact HS4.out
              have HR8 := Lib.hid hrel8
              have HAL : Hid ((At ++ l.map (·.lba)).length ≤ 100 * (r + 1)) := Lib.hid (by rw [List.length_append, List.length_map, HLA.out, HNL.out]; omega)
              have hown9 : w4.ownsRow w3.heap.size 9 1 (.slice A8 lR c8) lR (strV R) := by have h9 := hown8; first | (rw [hlR] at h9; exact h9) | (dsimp only at h9; rw [hlR] at h9; exact h9)
              have HO9 := Lib.hid hown9
              clear hb4 hown8 hlR hrel8 hown9
              have hEE : ¬ E < 0 := by omega
              cases cc with
              | false =>
                go_wp2_with fail
                go_roundw
                case rel => exact ⟨r + 1, ba2, R, _, _, by omega, by go_num, by omega, by omega, HR8, HP2, HK2, HAL.out⟩
                case measure => simp [intOf]; omega
              | true =>
                have hcne : ctl.toList ≠ [] ∧ blkOk ctl = true := by
                  rcases HCC.out with ⟨_, h⟩ | ⟨h, _⟩
                  · exact ⟨blk_ne h, h⟩
                  · cases h
                have hRE := HRE.out hcne.1
                obtain ⟨En, hEn⟩ : ∃ En : Nat, E = (En : Int) := ⟨E.toNat, by omega⟩
                subst hEn
                rw [Int.toNat_natCast] at hRE
                have hEl := (List.getElem?_eq_some_iff.1 hRE).1
                rw [HLR.out] at hEl
                obtain ⟨g8, cap8, hv8, _, _, _⟩ := own_form HO9.out (by omega)
                injection hv8 with hA8 _ hc8
                subst hA8 hc8
                have q8 := HO9.out.cellAt En (by omega)
                rw [show (strV R)[En]? = some (.string ctl) by unfold strV; rw [List.getElem?_map, hRE]; rfl] at q8
                have hElI : (En : Int) < (lR : Int) := by omega
                have hElI2 : ¬ (lR : Int) ≤ (En : Int) := by omega
                clear hRE hcne
                go_wp2_with fail
                go_roundw
                case rel => exact ⟨r + 1, ba2, R, _, _, by omega, by go_num, by omega, by omega, HR8, HP2, HK2, HAL.out⟩
                case measure => simp [intOf]; omega
      · have hr2I : ¬ (r : Int) < 2 := by omega
        go_wp2_with fail
        have HSI := Lib.hid (show SlAt wr wr.heap.size AI (strV img) from SlAt.of_own' (n := lI) (by have h9 := HS.out.im; rw [HLI.out] at h9; exact h9) (Nat.le_refl _))
        have HSA := Lib.hid (show SlAt wr wr.heap.size AA (intV At) from SlAt.of_own' (n := lA) (by have h9 := HS.out.at_; rw [HLA.out] at h9; exact h9) (Nat.le_refl _))
        have HSB := Lib.hid (show SlAt wr wr.heap.size AB (strV Bl) from SlAt.of_own' (n := lA) (by have h9 := HS.out.bl; rw [HLB.out] at h9; exact h9) (Nat.le_refl _))
        have HBw := Lib.hid HS.out.bel
        have hlI5 : (lI : Int) ≤ ba := by rw [← HLI.out]; exact HP.out.il
        obtain ⟨W, hW⟩ : ∃ W : World, W = wr := ⟨_, rfl⟩
        subst hW
        go_loopw [152] (fun i wx => ∃ k : Nat, k ≤ lA ∧ i = .int .i64 k ∧ Below W.heap.size W wx) (fun i _ => lA - (intOf i).toNat)
        case atStart => exact ⟨0, Nat.zero_le _, rfl, Below.refl _ _⟩
        case round =>
          obtain ⟨k, hk, rfl, hbel⟩ := hrel
          by_cases hlt : k < lA
          · obtain ⟨a, ha⟩ : ∃ a, At[k]? = some a := ⟨At[k]'(by rw [HLA.out]; exact hlt), List.getElem?_eq_getElem _⟩
            obtain ⟨b, hb⟩ : ∃ b, Bl[k]? = some b := ⟨Bl[k]'(by rw [HLB.out]; exact hlt), List.getElem?_eq_getElem _⟩
            have hi := HP.out.found k a b ha hb
            obtain ⟨ha0, ha1, hau⟩ := HP.out.each a (List.mem_of_getElem? ha)
            have hai := (List.getElem?_eq_some_iff.1 hi).1
            rw [HLI.out] at hai
            obtain ⟨an, han⟩ : ∃ an : Nat, a = (an : Int) := ⟨a.toNat, by omega⟩
            subst han
            rw [Int.toNat_natCast] at hi hai
            obtain ⟨bI, oI, hAI, _⟩ := HSI.out.strAddr (by rw [HLI.out]; omega)
            obtain ⟨bA, oA, hAA, _⟩ := HSA.out.intAddr (by rw [HLA.out]; omega)
            obtain ⟨bB, oB, hAB, _⟩ := HSB.out.strAddr (by rw [HLB.out]; omega)
            subst hAI hAA hAB
            have hkI : (k : Int) < (lA : Int) := by omega
            have h0k : (0 : Int) ≤ (k : Int) := by omega
            have haI : (an : Int) < (lI : Int) := by omega
            have haI2 : ¬ (lI : Int) ≤ (an : Int) := by omega
            have ha0I : ¬ (an : Int) < 0 := by omega
            have HA := Lib.hid ha
            have HB := Lib.hid hb
            have HI := Lib.hid hi
            have CU := Lib.hid (fun w => usable_any s (an : Int) w (by omega) (by omega))
            rw [hau] at CU
            have qa := (HSA.out.below hbel).int rfl ha
            have HPREV : Hid (∀ p, 0 < k → At[k - 1]? = some p → ¬ ((an : Int) ≤ p)) := Lib.hid (fun p hk0 hp => by
              have h1 := List.pairwise_iff_getElem.1 HP.out.inc (k - 1) k (by rw [HLA.out]; omega) (by rw [HLA.out]; exact hlt) (by omega)
              rw [(List.getElem?_eq_some_iff.1 hp).2, (List.getElem?_eq_some_iff.1 ha).2] at h1
              omega)
            clear ha hb hi hau
            have HBX := Lib.hid hbel
            have hws : IntKind.i64.wrap s = s := IntWalk.i64_in _ (by omega)
            by_cases hk0 : 0 < k
            · obtain ⟨p, hp⟩ : ∃ p, At[k - 1]? = some p := ⟨At[k - 1]'(by rw [HLA.out]; omega), List.getElem?_eq_getElem _⟩
              have HPP := Lib.hid hp
              have hpn := HPREV.out p hk0 hp
              have hk0I : (0 : Int) < (k : Int) := by omega
              have ek : ((k : Int) - 1).toNat = k - 1 := by omega
              have h0k1 : (0 : Int) ≤ (k : Int) - 1 := by omega
              have h1k : (1 : Int) ≤ (k : Int) := by omega
              have hk1l : (k : Int) - 1 < (lA : Int) := by omega
              have hwk : IntKind.i64.wrap ((k : Int) - 1) = (k : Int) - 1 := IntWalk.i64_in _ (by omega)
              clear hp
              go_upto_region 41 with fail
              refine wp_region_held_drew (S := (fun w' => Below W.heap.size W w')) (by kernel_rfl) (HBX.out.drew) (fun hHeld => ?_)
              refine wpAnyH_take (i := 0) (oi := ?o1) (v := ?v1) ?hi1 (by kernel_rfl) (by kernel_rfl) (by kernel_rfl) ?hq1 ?hy1 (by assumption) ?hr1
              case hi1 => (simp only [List.getElem?_toArray, List.getElem?_cons_zero]; rfl)
              case hy1 => ((refine .inl ⟨by rfl, ?_⟩); intro w hS; go_simp; (try with_reducible rfl))
              case hq1 => exact fun _ _ _ h => h
              (simp only [Act.put, List.setIfInBounds_toArray, List.set_cons_zero, List.set_cons_succ])
              refine wpAnyH_take (i := 1) (oi := ?o2) (v := ?v2) ?hi2 (by kernel_rfl) (by kernel_rfl) (by kernel_rfl) ?hq2 ?hy2 (by assumption) ?hr2
              case hi2 => (simp only [List.getElem?_toArray, List.getElem?_cons_succ, List.getElem?_cons_zero]; rfl)
              case hy2 => ((refine .inl ⟨by rfl, ?_⟩); intro w hS; go_simp; (try with_reducible rfl))
              case hq2 => exact fun _ _ _ h => h
              (simp only [Act.put, List.setIfInBounds_toArray, List.set_cons_zero, List.set_cons_succ])
              refine wpAnyH_take (i := 2) (oi := ?o3) (v := ?v3) ?hi3 (by kernel_rfl) (by kernel_rfl) (by kernel_rfl) ?hq3 ?hy3 (by assumption) ?hr3
              case hi3 => (simp only [List.getElem?_toArray, List.getElem?_cons_succ, List.getElem?_cons_zero]; rfl)
              case hy3 => ((refine .inl ⟨by rfl, ?_⟩); intro w hS; go_simp; (try with_reducible rfl))
              case hq3 => exact fun _ _ _ h => h
              (simp only [Act.put, List.setIfInBounds_toArray, List.set_cons_zero, List.set_cons_succ])
              refine wpAnyH_take (i := 3) (oi := ?o4) (v := ?v4) ?hi4 (by kernel_rfl) (by kernel_rfl) (by kernel_rfl) ?hq4 ?hy4 (by assumption) ?hr4
              case hi4 => (simp only [List.getElem?_toArray, List.getElem?_cons_succ, List.getElem?_cons_zero]; rfl)
              case hy4 => ((refine .inl ⟨by rfl, ?_⟩); intro w hS; go_simp; (try with_reducible rfl))
              case hq4 => exact fun _ _ _ h => h
              (simp only [Act.put, List.setIfInBounds_toArray, List.set_cons_zero, List.set_cons_succ])
              refine wpAnyH_take (i := 4) (oi := ?o5) (v := ?v5) ?hi5 (by kernel_rfl) (by kernel_rfl) (by kernel_rfl) ?hq5 ?hy5 (by assumption) ?hr5
              case hi5 => (simp only [List.getElem?_toArray, List.getElem?_cons_succ, List.getElem?_cons_zero]; rfl)
              case hy5 => ((refine .inl ⟨by rfl, ?_⟩); intro w hS; go_simp; (try with_reducible rfl))
              case hq5 => exact fun _ _ _ h => h
              (simp only [Act.put, List.setIfInBounds_toArray, List.set_cons_zero, List.set_cons_succ])
              refine wpAnyH_take (i := 5) (oi := ?o6) (v := ?v6) ?hi6 (by kernel_rfl) (by kernel_rfl) (by kernel_rfl) ?hq6 ?hy6 (by assumption) ?hr6
              case hi6 => (simp only [List.getElem?_toArray, List.getElem?_cons_succ, List.getElem?_cons_zero]; rfl)
              case hy6 => ((refine .inl ⟨by rfl, ?_⟩); intro w hS; go_simp; (try with_reducible rfl))
              case hq6 => exact fun _ _ _ h => h
              (simp only [Act.put, List.setIfInBounds_toArray, List.set_cons_zero, List.set_cons_succ])
              refine wpAnyH_take (i := 6) (oi := ?o7) (v := ?v7) ?hi7 (by kernel_rfl) (by kernel_rfl) (by kernel_rfl) ?hq7 ?hy7 (by assumption) ?hr7
              case hi7 => (simp only [List.getElem?_toArray, List.getElem?_cons_succ, List.getElem?_cons_zero]; rfl)
              case hy7 => ((refine .inl ⟨by rfl, ?_⟩); intro w hS; go_simp; (try with_reducible rfl))
              case hq7 => exact fun _ _ _ h => h
              (simp only [Act.put, List.setIfInBounds_toArray, List.set_cons_zero, List.set_cons_succ])
              refine wpAnyH_take (i := 7) (oi := ?o8) (v := ?v8) ?hi8 (by kernel_rfl) (by kernel_rfl) (by kernel_rfl) ?hq8 ?hy8 (by assumption) ?hr8
              case hi8 => (simp only [List.getElem?_toArray, List.getElem?_cons_succ, List.getElem?_cons_zero]; rfl)
              case hy8 => ((refine .inl ⟨by rfl, ?_⟩); intro w hS; go_simp; (try with_reducible rfl))
              case hq8 => exact fun _ _ _ h => h
              (simp only [Act.put, List.setIfInBounds_toArray, List.set_cons_zero, List.set_cons_succ])
              refine wpAnyH_take (i := 8) (oi := ?o9) (v := ?v9) ?hi9 (by kernel_rfl) (by kernel_rfl) (by kernel_rfl) ?hq9 ?hy9 (by assumption) ?hr9
              case hi9 => (simp only [List.getElem?_toArray, List.getElem?_cons_succ, List.getElem?_cons_zero]; rfl)
              case hy9 => ((refine .inl ⟨by rfl, ?_⟩); intro w hS; go_simp; (try with_reducible rfl))
              case hq9 => exact fun _ _ _ h => h
              (simp only [Act.put, List.setIfInBounds_toArray, List.set_cons_zero, List.set_cons_succ])
              refine wpAnyH_take (i := 9) (oi := ?o10) (v := ?v10) ?hi10 (by kernel_rfl) (by kernel_rfl) (by kernel_rfl) ?hq10 ?hy10 (by assumption) ?hr10
              case hi10 => (simp only [List.getElem?_toArray, List.getElem?_cons_succ, List.getElem?_cons_zero]; rfl)
              case hy10 => ((refine .inl ⟨by rfl, ?_⟩); intro w hS; go_simp; (try with_reducible rfl))
              case hq10 => exact fun _ _ _ h => h
              (simp only [Act.put, List.setIfInBounds_toArray, List.set_cons_zero, List.set_cons_succ])
              refine wpAnyH_take (i := 10) (oi := ?o11) (v := ?v11) ?hi11 (by kernel_rfl) (by kernel_rfl) (by kernel_rfl) ?hq11 ?hy11 (by assumption) ?hr11
              case hi11 => (simp only [List.getElem?_toArray, List.getElem?_cons_succ, List.getElem?_cons_zero]; rfl)
              case hy11 => ((refine .inl ⟨by rfl, ?_⟩); intro w hS; go_simp; (try with_reducible rfl))
              case hq11 => exact fun _ _ _ h => h
              (simp only [Act.put, List.setIfInBounds_toArray, List.set_cons_zero, List.set_cons_succ])
              refine wpAnyH_take (i := 11) (oi := ?o12) (v := ?v12) ?hi12 (by kernel_rfl) (by kernel_rfl) (by kernel_rfl) ?hq12 ?hy12 (by assumption) ?hr12
              case hi12 => (simp only [List.getElem?_toArray, List.getElem?_cons_succ, List.getElem?_cons_zero]; rfl)
              case hy12 => ((refine .inl ⟨by rfl, ?_⟩); intro w hS; go_simp; (try with_reducible rfl))
              case hq12 => exact fun _ _ _ h => h
              (simp only [Act.put, List.setIfInBounds_toArray, List.set_cons_zero, List.set_cons_succ])
              refine wpAnyH_take (i := 12) (oi := ?o13) (v := ?v13) ?hi13 (by kernel_rfl) (by kernel_rfl) (by kernel_rfl) ?hq13 ?hy13 (by assumption) ?hr13
              case hi13 => (simp only [List.getElem?_toArray, List.getElem?_cons_succ, List.getElem?_cons_zero]; rfl)
              case hy13 => ((refine .inl ⟨by rfl, ?_⟩); intro w hS; have q := (HSI.out.below hS).str rfl HI.out; go_simp; (try with_reducible rfl))
              case hq13 => exact fun _ _ _ h => h
              (simp only [Act.put, List.setIfInBounds_toArray, List.set_cons_zero, List.set_cons_succ])
              refine wpAnyH_take (i := 13) (oi := ?o14) (v := ?v14) ?hi14 (by kernel_rfl) (by kernel_rfl) (by kernel_rfl) ?hq14 ?hy14 (by assumption) ?hr14
              case hi14 => (simp only [List.getElem?_toArray, List.getElem?_cons_succ, List.getElem?_cons_zero]; rfl)
              case hy14 => ((refine .inl ⟨by rfl, ?_⟩); intro w hS; go_simp; (try with_reducible rfl))
              case hq14 => exact fun _ _ _ h => h
              (simp only [Act.put, List.setIfInBounds_toArray, List.set_cons_zero, List.set_cons_succ])
              refine wpAnyH_take (i := 14) (oi := ?o15) (v := ?v15) ?hi15 (by kernel_rfl) (by kernel_rfl) (by kernel_rfl) ?hq15 ?hy15 (by assumption) ?hr15
              case hi15 => (simp only [List.getElem?_toArray, List.getElem?_cons_succ, List.getElem?_cons_zero]; rfl)
              case hy15 => ((refine .inl ⟨by rfl, ?_⟩); intro w hS; go_simp; (try with_reducible rfl))
              case hq15 => exact fun _ _ _ h => h
              (simp only [Act.put, List.setIfInBounds_toArray, List.set_cons_zero, List.set_cons_succ])
              refine wpAnyH_take (i := 15) (oi := ?o16) (v := ?v16) ?hi16 (by kernel_rfl) (by kernel_rfl) (by kernel_rfl) ?hq16 ?hy16 (by assumption) ?hr16
              case hi16 => (simp only [List.getElem?_toArray, List.getElem?_cons_succ, List.getElem?_cons_zero]; rfl)
              case hy16 => ((refine .inl ⟨by rfl, ?_⟩); intro w hS; go_simp; (try with_reducible rfl))
              case hq16 => exact fun _ _ _ h => h
              (simp only [Act.put, List.setIfInBounds_toArray, List.set_cons_zero, List.set_cons_succ])
              refine wpAnyH_take (i := 16) (oi := ?o17) (v := ?v17) ?hi17 (by kernel_rfl) (by kernel_rfl) (by kernel_rfl) ?hq17 ?hy17 (by assumption) ?hr17
              case hi17 => (simp only [List.getElem?_toArray, List.getElem?_cons_succ, List.getElem?_cons_zero]; rfl)
              case hy17 => ((refine .inl ⟨by rfl, ?_⟩); intro w hS; have q := (HSB.out.below hS).str rfl HB.out; go_simp; (try with_reducible rfl))
              case hq17 => exact fun _ _ _ h => h
              (simp only [Act.put, List.setIfInBounds_toArray, List.set_cons_zero, List.set_cons_succ])
              refine wpAnyH_take (i := 17) (oi := ?o18) (v := ?v18) ?hi18 (by kernel_rfl) (by kernel_rfl) (by kernel_rfl) ?hq18 ?hy18 (by assumption) ?hr18
              case hi18 => (simp only [List.getElem?_toArray, List.getElem?_cons_succ, List.getElem?_cons_zero]; rfl)
              case hy18 => ((refine .inl ⟨by rfl, ?_⟩); intro w hS; go_simp; (try with_reducible rfl))
              case hq18 => exact fun _ _ _ h => h
              (simp only [Act.put, List.setIfInBounds_toArray, List.set_cons_zero, List.set_cons_succ])
              refine wpAnyH_take (i := 18) (oi := ?o19) (v := ?v19) ?hi19 (by kernel_rfl) (by kernel_rfl) (by kernel_rfl) ?hq19 ?hy19 (by assumption) ?hr19
              case hi19 => (simp only [List.getElem?_toArray, List.getElem?_cons_succ, List.getElem?_cons_zero]; rfl)
              case hy19 => ((refine .inl ⟨by rfl, ?_⟩); intro w hS; go_simp; (try with_reducible rfl))
              case hq19 => exact fun _ _ _ h => h
              (simp only [Act.put, List.setIfInBounds_toArray, List.set_cons_zero, List.set_cons_succ])
              refine wpAnyH_take (i := 19) (oi := ?o20) (v := ?v20) ?hi20 (by kernel_rfl) (by kernel_rfl) (by kernel_rfl) ?hq20 ?hy20 (by assumption) ?hr20
              case hi20 => (simp only [List.getElem?_toArray, List.getElem?_cons_succ, List.getElem?_cons_zero]; rfl)
              case hy20 => ((refine .inl ⟨by rfl, ?_⟩); intro w hS; go_simp; (try with_reducible rfl))
              case hq20 => exact fun _ _ _ h => h
              (simp only [Act.put, List.setIfInBounds_toArray, List.set_cons_zero, List.set_cons_succ])
              refine wpAnyH_take (i := 20) (oi := ?o21) (v := ?v21) ?hi21 (by kernel_rfl) (by kernel_rfl) (by kernel_rfl) ?hq21 ?hy21 (by assumption) ?hr21
              case hi21 => (simp only [List.getElem?_toArray, List.getElem?_cons_succ, List.getElem?_cons_zero]; rfl)
              case hy21 => ((refine .inl ⟨by rfl, ?_⟩); intro w hS; go_simp; (try with_reducible rfl))
              case hq21 => exact fun _ _ _ h => h
              (simp only [Act.put, List.setIfInBounds_toArray, List.set_cons_zero, List.set_cons_succ])
              refine wpAnyH_take (i := 21) (oi := ?o22) (v := ?v22) ?hi22 (by kernel_rfl) (by kernel_rfl) (by kernel_rfl) ?hq22 ?hy22 (by assumption) ?hr22
              case hi22 => (simp only [List.getElem?_toArray, List.getElem?_cons_succ, List.getElem?_cons_zero]; rfl)
              case hy22 => ((refine .inl ⟨by rfl, ?_⟩); intro w hS; go_simp; (try with_reducible rfl))
              case hq22 => exact fun _ _ _ h => h
              (simp only [Act.put, List.setIfInBounds_toArray, List.set_cons_zero, List.set_cons_succ])
              refine wpAnyH_take (i := 22) (oi := ?o23) (v := ?v23) ?hi23 (by kernel_rfl) (by kernel_rfl) (by kernel_rfl) ?hq23 ?hy23 (by assumption) ?hr23
              case hi23 => (simp only [List.getElem?_toArray, List.getElem?_cons_succ, List.getElem?_cons_zero]; rfl)
              case hy23 => ((refine .inl ⟨by rfl, ?_⟩); intro w hS; go_simp; (try with_reducible rfl))
              case hq23 => exact fun _ _ _ h => h
              (simp only [Act.put, List.setIfInBounds_toArray, List.set_cons_zero, List.set_cons_succ])
              refine wpAnyH_ready (rs := [23]) (by kernel_rfl) (by simp) ?_
              refine AllReadyH.cons rfl (fun K hK => ?_) AllReadyH.nil
              go_simp
              go_wp2_with (((with_reducible refine (CU.out _).mono ?_); rintro e wx ⟨rfl, rfl⟩))
              refine hK.out _ _ (hHeld) (fun hHeld1 => ?_)
              clear hK K
              (try simp only [Act.put, List.setIfInBounds_toArray, List.set_cons_zero, List.set_cons_succ])
              clear hHeld; have hHeld := hHeld1; clear hHeld1
              refine wpAnyH_take (i := 24) (oi := ?o24) (v := ?v24) ?hi24 (by kernel_rfl) (by kernel_rfl) (by kernel_rfl) ?hq24 ?hy24 (by assumption) ?hr24
              case hi24 => (simp only [List.getElem?_toArray, List.getElem?_cons_succ, List.getElem?_cons_zero]; rfl)
              case hy24 => ((refine .inl ⟨by rfl, ?_⟩); intro w hS; go_simp; (try with_reducible rfl))
              case hq24 => exact fun _ _ _ h => h
              (simp only [Act.put, List.setIfInBounds_toArray, List.set_cons_zero, List.set_cons_succ])
              refine wpAnyH_take (i := 25) (oi := ?o25) (v := ?v25) ?hi25 (by kernel_rfl) (by kernel_rfl) (by kernel_rfl) ?hq25 ?hy25 (by assumption) ?hr25
              case hi25 => (simp only [List.getElem?_toArray, List.getElem?_cons_succ, List.getElem?_cons_zero]; rfl)
              case hy25 => ((refine .inl ⟨by rfl, ?_⟩); intro w hS; go_simp; (try with_reducible rfl))
              case hq25 => exact fun _ _ _ h => h
              (simp only [Act.put, List.setIfInBounds_toArray, List.set_cons_zero, List.set_cons_succ])
              refine wpAnyH_take (i := 26) (oi := ?o26) (v := ?v26) ?hi26 (by kernel_rfl) (by kernel_rfl) (by kernel_rfl) ?hq26 ?hy26 (by assumption) ?hr26
              case hi26 => (simp only [List.getElem?_toArray, List.getElem?_cons_succ, List.getElem?_cons_zero]; rfl)
              case hy26 => ((refine .inl ⟨by rfl, ?_⟩); intro w hS; go_simp; (try with_reducible rfl))
              case hq26 => exact fun _ _ _ h => h
              (simp only [Act.put, List.setIfInBounds_toArray, List.set_cons_zero, List.set_cons_succ])
              refine wpAnyH_take (i := 27) (oi := ?o27) (v := ?v27) ?hi27 (by kernel_rfl) (by kernel_rfl) (by kernel_rfl) ?hq27 ?hy27 (by assumption) ?hr27
              case hi27 => (simp only [List.getElem?_toArray, List.getElem?_cons_succ, List.getElem?_cons_zero]; rfl)
              case hy27 => ((refine .inl ⟨by rfl, ?_⟩); intro w hS; go_simp; (try with_reducible rfl))
              case hq27 => exact fun _ _ _ h => h
              (simp only [Act.put, List.setIfInBounds_toArray, List.set_cons_zero, List.set_cons_succ])
              refine wpAnyH_take (i := 28) (oi := ?o28) (v := ?v28) ?hi28 (by kernel_rfl) (by kernel_rfl) (by kernel_rfl) ?hq28 ?hy28 (by assumption) ?hr28
              case hi28 => (simp only [List.getElem?_toArray, List.getElem?_cons_succ, List.getElem?_cons_zero]; rfl)
              case hy28 => ((refine .inl ⟨by rfl, ?_⟩); intro w hS; go_simp; (try with_reducible rfl))
              case hq28 => exact fun _ _ _ h => h
              (simp only [Act.put, List.setIfInBounds_toArray, List.set_cons_zero, List.set_cons_succ])
              refine wpAnyH_take (i := 29) (oi := ?o29) (v := ?v29) ?hi29 (by kernel_rfl) (by kernel_rfl) (by kernel_rfl) ?hq29 ?hy29 (by assumption) ?hr29
              case hi29 => (simp only [List.getElem?_toArray, List.getElem?_cons_succ, List.getElem?_cons_zero]; rfl)
              case hy29 => ((refine .inl ⟨by rfl, ?_⟩); intro w hS; go_simp; (try with_reducible rfl))
              case hq29 => exact fun _ _ _ h => h
              (simp only [Act.put, List.setIfInBounds_toArray, List.set_cons_zero, List.set_cons_succ])
              refine wpAnyH_take (i := 30) (oi := ?o30) (v := ?v30) ?hi30 (by kernel_rfl) (by kernel_rfl) (by kernel_rfl) ?hq30 ?hy30 (by assumption) ?hr30
              case hi30 => (simp only [List.getElem?_toArray, List.getElem?_cons_succ, List.getElem?_cons_zero]; rfl)
              case hy30 => ((refine .inl ⟨by rfl, ?_⟩); intro w hS; go_simp; (try with_reducible rfl))
              case hq30 => exact fun _ _ _ h => h
              (simp only [Act.put, List.setIfInBounds_toArray, List.set_cons_zero, List.set_cons_succ])
              refine wpAnyH_take (i := 31) (oi := ?o31) (v := ?v31) ?hi31 (by kernel_rfl) (by kernel_rfl) (by kernel_rfl) ?hq31 ?hy31 (by assumption) ?hr31
              case hi31 => (simp only [List.getElem?_toArray, List.getElem?_cons_succ, List.getElem?_cons_zero]; rfl)
              case hy31 => ((refine .inl ⟨by rfl, ?_⟩); intro w hS; go_simp; (try with_reducible rfl))
              case hq31 => exact fun _ _ _ h => h
              (simp only [Act.put, List.setIfInBounds_toArray, List.set_cons_zero, List.set_cons_succ])
              refine wpAnyH_take (i := 32) (oi := ?o32) (v := ?v32) ?hi32 (by kernel_rfl) (by kernel_rfl) (by kernel_rfl) ?hq32 ?hy32 (by assumption) ?hr32
              case hi32 => (simp only [List.getElem?_toArray, List.getElem?_cons_succ, List.getElem?_cons_zero]; rfl)
              case hy32 => ((refine .inl ⟨by rfl, ?_⟩); intro w hS; go_simp; (try with_reducible rfl))
              case hq32 => exact fun _ _ _ h => h
              (simp only [Act.put, List.setIfInBounds_toArray, List.set_cons_zero, List.set_cons_succ])
              refine wpAnyH_take (i := 33) (oi := ?o33) (v := ?v33) ?hi33 (by kernel_rfl) (by kernel_rfl) (by kernel_rfl) ?hq33 ?hy33 (by assumption) ?hr33
              case hi33 => (simp only [List.getElem?_toArray, List.getElem?_cons_succ, List.getElem?_cons_zero]; rfl)
              case hy33 => ((refine .inl ⟨by rfl, ?_⟩); intro w hS; go_simp; (try with_reducible rfl))
              case hq33 => exact fun _ _ _ h => h
              (simp only [Act.put, List.setIfInBounds_toArray, List.set_cons_zero, List.set_cons_succ])
              refine wpAnyH_take (i := 34) (oi := ?o34) (v := ?v34) ?hi34 (by kernel_rfl) (by kernel_rfl) (by kernel_rfl) ?hq34 ?hy34 (by assumption) ?hr34
              case hi34 => (simp only [List.getElem?_toArray, List.getElem?_cons_succ, List.getElem?_cons_zero]; rfl)
              case hy34 => ((refine .inl ⟨by rfl, ?_⟩); intro w hS; go_simp; (try with_reducible rfl))
              case hq34 => exact fun _ _ _ h => h
              (simp only [Act.put, List.setIfInBounds_toArray, List.set_cons_zero, List.set_cons_succ])
              refine wpAnyH_take (i := 35) (oi := ?o35) (v := ?v35) ?hi35 (by kernel_rfl) (by kernel_rfl) (by kernel_rfl) ?hq35 ?hy35 (by assumption) ?hr35
              case hi35 => (simp only [List.getElem?_toArray, List.getElem?_cons_succ, List.getElem?_cons_zero]; rfl)
              case hy35 => ((refine .inl ⟨by rfl, ?_⟩); intro w hS; have q := (HSA.out.below hS).int rfl HPP.out; go_simp; (try with_reducible rfl))
              case hq35 => exact fun _ _ _ h => h
              (simp only [Act.put, List.setIfInBounds_toArray, List.set_cons_zero, List.set_cons_succ])
              refine wpAnyH_take (i := 36) (oi := ?o36) (v := ?v36) ?hi36 (by kernel_rfl) (by kernel_rfl) (by kernel_rfl) ?hq36 ?hy36 (by assumption) ?hr36
              case hi36 => (simp only [List.getElem?_toArray, List.getElem?_cons_succ, List.getElem?_cons_zero]; rfl)
              case hy36 => ((refine .inl ⟨by rfl, ?_⟩); intro w hS; go_simp; (try with_reducible rfl))
              case hq36 => exact fun _ _ _ h => h
              (simp only [Act.put, List.setIfInBounds_toArray, List.set_cons_zero, List.set_cons_succ])
              refine wpAnyH_take (i := 37) (oi := ?o37) (v := ?v37) ?hi37 (by kernel_rfl) (by kernel_rfl) (by kernel_rfl) ?hq37 ?hy37 (by assumption) ?hr37
              case hi37 => (simp only [List.getElem?_toArray, List.getElem?_cons_succ, List.getElem?_cons_zero]; rfl)
              case hy37 => ((refine .inl ⟨by rfl, ?_⟩); intro w hS; go_simp; (try with_reducible rfl))
              case hq37 => exact fun _ _ _ h => h
              (simp only [Act.put, List.setIfInBounds_toArray, List.set_cons_zero, List.set_cons_succ])
              refine wpAnyH_take (i := 38) (oi := ?o38) (v := ?v38) ?hi38 (by kernel_rfl) (by kernel_rfl) (by kernel_rfl) ?hq38 ?hy38 (by assumption) ?hr38
              case hi38 => (simp only [List.getElem?_toArray, List.getElem?_cons_succ, List.getElem?_cons_zero]; rfl)
              case hy38 => ((refine .inl ⟨by rfl, ?_⟩); intro w hS; go_simp; (try with_reducible rfl))
              case hq38 => exact fun _ _ _ h => h
              (simp only [Act.put, List.setIfInBounds_toArray, List.set_cons_zero, List.set_cons_succ])
              refine wpAnyH_done (by kernel_rfl) ?_ _
              clear ek hwk
              go_wp2_with fail
              go_roundw
              case rel => first | exact ⟨k + 1, hlt, by go_num, hHeld⟩ | exact ⟨_, ⟨k + 1, hlt, by simp, hHeld⟩, rfl⟩ | exact ⟨_, _, ⟨k + 1, hlt, by simp, hHeld⟩, rfl, rfl⟩
              case measure => simp [intOf]; omega
            · have hk0I : ¬ (0 : Int) < (k : Int) := by omega
              go_upto_region 41 with fail
              refine wp_region_held_drew (S := (fun w' => Below W.heap.size W w')) (by kernel_rfl) (HBX.out.drew) (fun hHeld => ?_)
              refine wpAnyH_take (i := 0) (oi := ?o39) (v := ?v39) ?hi39 (by kernel_rfl) (by kernel_rfl) (by kernel_rfl) ?hq39 ?hy39 (by assumption) ?hr39
              case hi39 => (simp only [List.getElem?_toArray, List.getElem?_cons_zero]; rfl)
              case hy39 => ((refine .inl ⟨by rfl, ?_⟩); intro w hS; go_simp; (try with_reducible rfl))
              case hq39 => exact fun _ _ _ h => h
              (simp only [Act.put, List.setIfInBounds_toArray, List.set_cons_zero, List.set_cons_succ])
              refine wpAnyH_take (i := 1) (oi := ?o40) (v := ?v40) ?hi40 (by kernel_rfl) (by kernel_rfl) (by kernel_rfl) ?hq40 ?hy40 (by assumption) ?hr40
              case hi40 => (simp only [List.getElem?_toArray, List.getElem?_cons_succ, List.getElem?_cons_zero]; rfl)
              case hy40 => ((refine .inl ⟨by rfl, ?_⟩); intro w hS; go_simp; (try with_reducible rfl))
              case hq40 => exact fun _ _ _ h => h
              (simp only [Act.put, List.setIfInBounds_toArray, List.set_cons_zero, List.set_cons_succ])
              refine wpAnyH_take (i := 2) (oi := ?o41) (v := ?v41) ?hi41 (by kernel_rfl) (by kernel_rfl) (by kernel_rfl) ?hq41 ?hy41 (by assumption) ?hr41
              case hi41 => (simp only [List.getElem?_toArray, List.getElem?_cons_succ, List.getElem?_cons_zero]; rfl)
              case hy41 => ((refine .inl ⟨by rfl, ?_⟩); intro w hS; go_simp; (try with_reducible rfl))
              case hq41 => exact fun _ _ _ h => h
              (simp only [Act.put, List.setIfInBounds_toArray, List.set_cons_zero, List.set_cons_succ])
              refine wpAnyH_take (i := 3) (oi := ?o42) (v := ?v42) ?hi42 (by kernel_rfl) (by kernel_rfl) (by kernel_rfl) ?hq42 ?hy42 (by assumption) ?hr42
              case hi42 => (simp only [List.getElem?_toArray, List.getElem?_cons_succ, List.getElem?_cons_zero]; rfl)
              case hy42 => ((refine .inl ⟨by rfl, ?_⟩); intro w hS; go_simp; (try with_reducible rfl))
              case hq42 => exact fun _ _ _ h => h
              (simp only [Act.put, List.setIfInBounds_toArray, List.set_cons_zero, List.set_cons_succ])
              refine wpAnyH_take (i := 4) (oi := ?o43) (v := ?v43) ?hi43 (by kernel_rfl) (by kernel_rfl) (by kernel_rfl) ?hq43 ?hy43 (by assumption) ?hr43
              case hi43 => (simp only [List.getElem?_toArray, List.getElem?_cons_succ, List.getElem?_cons_zero]; rfl)
              case hy43 => ((refine .inl ⟨by rfl, ?_⟩); intro w hS; go_simp; (try with_reducible rfl))
              case hq43 => exact fun _ _ _ h => h
              (simp only [Act.put, List.setIfInBounds_toArray, List.set_cons_zero, List.set_cons_succ])
              refine wpAnyH_take (i := 5) (oi := ?o44) (v := ?v44) ?hi44 (by kernel_rfl) (by kernel_rfl) (by kernel_rfl) ?hq44 ?hy44 (by assumption) ?hr44
              case hi44 => (simp only [List.getElem?_toArray, List.getElem?_cons_succ, List.getElem?_cons_zero]; rfl)
              case hy44 => ((refine .inl ⟨by rfl, ?_⟩); intro w hS; go_simp; (try with_reducible rfl))
              case hq44 => exact fun _ _ _ h => h
              (simp only [Act.put, List.setIfInBounds_toArray, List.set_cons_zero, List.set_cons_succ])
              refine wpAnyH_take (i := 6) (oi := ?o45) (v := ?v45) ?hi45 (by kernel_rfl) (by kernel_rfl) (by kernel_rfl) ?hq45 ?hy45 (by assumption) ?hr45
              case hi45 => (simp only [List.getElem?_toArray, List.getElem?_cons_succ, List.getElem?_cons_zero]; rfl)
              case hy45 => ((refine .inl ⟨by rfl, ?_⟩); intro w hS; go_simp; (try with_reducible rfl))
              case hq45 => exact fun _ _ _ h => h
              (simp only [Act.put, List.setIfInBounds_toArray, List.set_cons_zero, List.set_cons_succ])
              refine wpAnyH_take (i := 7) (oi := ?o46) (v := ?v46) ?hi46 (by kernel_rfl) (by kernel_rfl) (by kernel_rfl) ?hq46 ?hy46 (by assumption) ?hr46
              case hi46 => (simp only [List.getElem?_toArray, List.getElem?_cons_succ, List.getElem?_cons_zero]; rfl)
              case hy46 => ((refine .inl ⟨by rfl, ?_⟩); intro w hS; go_simp; (try with_reducible rfl))
              case hq46 => exact fun _ _ _ h => h
              (simp only [Act.put, List.setIfInBounds_toArray, List.set_cons_zero, List.set_cons_succ])
              refine wpAnyH_take (i := 8) (oi := ?o47) (v := ?v47) ?hi47 (by kernel_rfl) (by kernel_rfl) (by kernel_rfl) ?hq47 ?hy47 (by assumption) ?hr47
              case hi47 => (simp only [List.getElem?_toArray, List.getElem?_cons_succ, List.getElem?_cons_zero]; rfl)
              case hy47 => ((refine .inl ⟨by rfl, ?_⟩); intro w hS; go_simp; (try with_reducible rfl))
              case hq47 => exact fun _ _ _ h => h
              (simp only [Act.put, List.setIfInBounds_toArray, List.set_cons_zero, List.set_cons_succ])
              refine wpAnyH_take (i := 9) (oi := ?o48) (v := ?v48) ?hi48 (by kernel_rfl) (by kernel_rfl) (by kernel_rfl) ?hq48 ?hy48 (by assumption) ?hr48
              case hi48 => (simp only [List.getElem?_toArray, List.getElem?_cons_succ, List.getElem?_cons_zero]; rfl)
              case hy48 => ((refine .inl ⟨by rfl, ?_⟩); intro w hS; go_simp; (try with_reducible rfl))
              case hq48 => exact fun _ _ _ h => h
              (simp only [Act.put, List.setIfInBounds_toArray, List.set_cons_zero, List.set_cons_succ])
              refine wpAnyH_take (i := 10) (oi := ?o49) (v := ?v49) ?hi49 (by kernel_rfl) (by kernel_rfl) (by kernel_rfl) ?hq49 ?hy49 (by assumption) ?hr49
              case hi49 => (simp only [List.getElem?_toArray, List.getElem?_cons_succ, List.getElem?_cons_zero]; rfl)
              case hy49 => ((refine .inl ⟨by rfl, ?_⟩); intro w hS; go_simp; (try with_reducible rfl))
              case hq49 => exact fun _ _ _ h => h
              (simp only [Act.put, List.setIfInBounds_toArray, List.set_cons_zero, List.set_cons_succ])
              refine wpAnyH_take (i := 11) (oi := ?o50) (v := ?v50) ?hi50 (by kernel_rfl) (by kernel_rfl) (by kernel_rfl) ?hq50 ?hy50 (by assumption) ?hr50
              case hi50 => (simp only [List.getElem?_toArray, List.getElem?_cons_succ, List.getElem?_cons_zero]; rfl)
              case hy50 => ((refine .inl ⟨by rfl, ?_⟩); intro w hS; go_simp; (try with_reducible rfl))
              case hq50 => exact fun _ _ _ h => h
              (simp only [Act.put, List.setIfInBounds_toArray, List.set_cons_zero, List.set_cons_succ])
              refine wpAnyH_take (i := 12) (oi := ?o51) (v := ?v51) ?hi51 (by kernel_rfl) (by kernel_rfl) (by kernel_rfl) ?hq51 ?hy51 (by assumption) ?hr51
              case hi51 => (simp only [List.getElem?_toArray, List.getElem?_cons_succ, List.getElem?_cons_zero]; rfl)
              case hy51 => ((refine .inl ⟨by rfl, ?_⟩); intro w hS; have q := (HSI.out.below hS).str rfl HI.out; go_simp; (try with_reducible rfl))
              case hq51 => exact fun _ _ _ h => h
              (simp only [Act.put, List.setIfInBounds_toArray, List.set_cons_zero, List.set_cons_succ])
              refine wpAnyH_take (i := 13) (oi := ?o52) (v := ?v52) ?hi52 (by kernel_rfl) (by kernel_rfl) (by kernel_rfl) ?hq52 ?hy52 (by assumption) ?hr52
              case hi52 => (simp only [List.getElem?_toArray, List.getElem?_cons_succ, List.getElem?_cons_zero]; rfl)
              case hy52 => ((refine .inl ⟨by rfl, ?_⟩); intro w hS; go_simp; (try with_reducible rfl))
              case hq52 => exact fun _ _ _ h => h
              (simp only [Act.put, List.setIfInBounds_toArray, List.set_cons_zero, List.set_cons_succ])
              refine wpAnyH_take (i := 14) (oi := ?o53) (v := ?v53) ?hi53 (by kernel_rfl) (by kernel_rfl) (by kernel_rfl) ?hq53 ?hy53 (by assumption) ?hr53
              case hi53 => (simp only [List.getElem?_toArray, List.getElem?_cons_succ, List.getElem?_cons_zero]; rfl)
              case hy53 => ((refine .inl ⟨by rfl, ?_⟩); intro w hS; go_simp; (try with_reducible rfl))
              case hq53 => exact fun _ _ _ h => h
              (simp only [Act.put, List.setIfInBounds_toArray, List.set_cons_zero, List.set_cons_succ])
              refine wpAnyH_take (i := 15) (oi := ?o54) (v := ?v54) ?hi54 (by kernel_rfl) (by kernel_rfl) (by kernel_rfl) ?hq54 ?hy54 (by assumption) ?hr54
              case hi54 => (simp only [List.getElem?_toArray, List.getElem?_cons_succ, List.getElem?_cons_zero]; rfl)
              case hy54 => ((refine .inl ⟨by rfl, ?_⟩); intro w hS; go_simp; (try with_reducible rfl))
              case hq54 => exact fun _ _ _ h => h
              (simp only [Act.put, List.setIfInBounds_toArray, List.set_cons_zero, List.set_cons_succ])
              refine wpAnyH_take (i := 16) (oi := ?o55) (v := ?v55) ?hi55 (by kernel_rfl) (by kernel_rfl) (by kernel_rfl) ?hq55 ?hy55 (by assumption) ?hr55
              case hi55 => (simp only [List.getElem?_toArray, List.getElem?_cons_succ, List.getElem?_cons_zero]; rfl)
              case hy55 => ((refine .inl ⟨by rfl, ?_⟩); intro w hS; have q := (HSB.out.below hS).str rfl HB.out; go_simp; (try with_reducible rfl))
              case hq55 => exact fun _ _ _ h => h
              (simp only [Act.put, List.setIfInBounds_toArray, List.set_cons_zero, List.set_cons_succ])
              refine wpAnyH_take (i := 17) (oi := ?o56) (v := ?v56) ?hi56 (by kernel_rfl) (by kernel_rfl) (by kernel_rfl) ?hq56 ?hy56 (by assumption) ?hr56
              case hi56 => (simp only [List.getElem?_toArray, List.getElem?_cons_succ, List.getElem?_cons_zero]; rfl)
              case hy56 => ((refine .inl ⟨by rfl, ?_⟩); intro w hS; go_simp; (try with_reducible rfl))
              case hq56 => exact fun _ _ _ h => h
              (simp only [Act.put, List.setIfInBounds_toArray, List.set_cons_zero, List.set_cons_succ])
              refine wpAnyH_take (i := 18) (oi := ?o57) (v := ?v57) ?hi57 (by kernel_rfl) (by kernel_rfl) (by kernel_rfl) ?hq57 ?hy57 (by assumption) ?hr57
              case hi57 => (simp only [List.getElem?_toArray, List.getElem?_cons_succ, List.getElem?_cons_zero]; rfl)
              case hy57 => ((refine .inl ⟨by rfl, ?_⟩); intro w hS; go_simp; (try with_reducible rfl))
              case hq57 => exact fun _ _ _ h => h
              (simp only [Act.put, List.setIfInBounds_toArray, List.set_cons_zero, List.set_cons_succ])
              refine wpAnyH_take (i := 19) (oi := ?o58) (v := ?v58) ?hi58 (by kernel_rfl) (by kernel_rfl) (by kernel_rfl) ?hq58 ?hy58 (by assumption) ?hr58
              case hi58 => (simp only [List.getElem?_toArray, List.getElem?_cons_succ, List.getElem?_cons_zero]; rfl)
              case hy58 => ((refine .inl ⟨by rfl, ?_⟩); intro w hS; go_simp; (try with_reducible rfl))
              case hq58 => exact fun _ _ _ h => h
              (simp only [Act.put, List.setIfInBounds_toArray, List.set_cons_zero, List.set_cons_succ])
              refine wpAnyH_take (i := 20) (oi := ?o59) (v := ?v59) ?hi59 (by kernel_rfl) (by kernel_rfl) (by kernel_rfl) ?hq59 ?hy59 (by assumption) ?hr59
              case hi59 => (simp only [List.getElem?_toArray, List.getElem?_cons_succ, List.getElem?_cons_zero]; rfl)
              case hy59 => ((refine .inl ⟨by rfl, ?_⟩); intro w hS; go_simp; (try with_reducible rfl))
              case hq59 => exact fun _ _ _ h => h
              (simp only [Act.put, List.setIfInBounds_toArray, List.set_cons_zero, List.set_cons_succ])
              refine wpAnyH_take (i := 21) (oi := ?o60) (v := ?v60) ?hi60 (by kernel_rfl) (by kernel_rfl) (by kernel_rfl) ?hq60 ?hy60 (by assumption) ?hr60
              case hi60 => (simp only [List.getElem?_toArray, List.getElem?_cons_succ, List.getElem?_cons_zero]; rfl)
              case hy60 => ((refine .inl ⟨by rfl, ?_⟩); intro w hS; go_simp; (try with_reducible rfl))
              case hq60 => exact fun _ _ _ h => h
              (simp only [Act.put, List.setIfInBounds_toArray, List.set_cons_zero, List.set_cons_succ])
              refine wpAnyH_take (i := 22) (oi := ?o61) (v := ?v61) ?hi61 (by kernel_rfl) (by kernel_rfl) (by kernel_rfl) ?hq61 ?hy61 (by assumption) ?hr61
              case hi61 => (simp only [List.getElem?_toArray, List.getElem?_cons_succ, List.getElem?_cons_zero]; rfl)
              case hy61 => ((refine .inl ⟨by rfl, ?_⟩); intro w hS; go_simp; (try with_reducible rfl))
              case hq61 => exact fun _ _ _ h => h
              (simp only [Act.put, List.setIfInBounds_toArray, List.set_cons_zero, List.set_cons_succ])
              refine wpAnyH_ready (rs := [23]) (by kernel_rfl) (by simp) ?_
              refine AllReadyH.cons rfl (fun K hK => ?_) AllReadyH.nil
              go_simp
              go_wp2_with (((with_reducible refine (CU.out _).mono ?_); rintro e wx ⟨rfl, rfl⟩))
              refine hK.out _ _ (hHeld) (fun hHeld1 => ?_)
              clear hK K
              (try simp only [Act.put, List.setIfInBounds_toArray, List.set_cons_zero, List.set_cons_succ])
              clear hHeld; have hHeld := hHeld1; clear hHeld1
              refine wpAnyH_take (i := 24) (oi := ?o62) (v := ?v62) ?hi62 (by kernel_rfl) (by kernel_rfl) (by kernel_rfl) ?hq62 ?hy62 (by assumption) ?hr62
              case hi62 => (simp only [List.getElem?_toArray, List.getElem?_cons_succ, List.getElem?_cons_zero]; rfl)
              case hy62 => ((refine .inl ⟨by rfl, ?_⟩); intro w hS; go_simp; (try with_reducible rfl))
              case hq62 => exact fun _ _ _ h => h
              (simp only [Act.put, List.setIfInBounds_toArray, List.set_cons_zero, List.set_cons_succ])
              refine wpAnyH_take (i := 25) (oi := ?o63) (v := ?v63) ?hi63 (by kernel_rfl) (by kernel_rfl) (by kernel_rfl) ?hq63 ?hy63 (by assumption) ?hr63
              case hi63 => (simp only [List.getElem?_toArray, List.getElem?_cons_succ, List.getElem?_cons_zero]; rfl)
              case hy63 => ((refine .inl ⟨by rfl, ?_⟩); intro w hS; go_simp; (try with_reducible rfl))
              case hq63 => exact fun _ _ _ h => h
              (simp only [Act.put, List.setIfInBounds_toArray, List.set_cons_zero, List.set_cons_succ])
              refine wpAnyH_take (i := 26) (oi := ?o64) (v := ?v64) ?hi64 (by kernel_rfl) (by kernel_rfl) (by kernel_rfl) ?hq64 ?hy64 (by assumption) ?hr64
              case hi64 => (simp only [List.getElem?_toArray, List.getElem?_cons_succ, List.getElem?_cons_zero]; rfl)
              case hy64 => ((refine .inl ⟨by rfl, ?_⟩); intro w hS; go_simp; (try with_reducible rfl))
              case hq64 => exact fun _ _ _ h => h
              (simp only [Act.put, List.setIfInBounds_toArray, List.set_cons_zero, List.set_cons_succ])
              refine wpAnyH_take (i := 27) (oi := ?o65) (v := ?v65) ?hi65 (by kernel_rfl) (by kernel_rfl) (by kernel_rfl) ?hq65 ?hy65 (by assumption) ?hr65
              case hi65 => (simp only [List.getElem?_toArray, List.getElem?_cons_succ, List.getElem?_cons_zero]; rfl)
              case hy65 => ((refine .inl ⟨by rfl, ?_⟩); intro w hS; go_simp; (try with_reducible rfl))
              case hq65 => exact fun _ _ _ h => h
              (simp only [Act.put, List.setIfInBounds_toArray, List.set_cons_zero, List.set_cons_succ])
              refine wpAnyH_take (i := 28) (oi := ?o66) (v := ?v66) ?hi66 (by kernel_rfl) (by kernel_rfl) (by kernel_rfl) ?hq66 ?hy66 (by assumption) ?hr66
              case hi66 => (simp only [List.getElem?_toArray, List.getElem?_cons_succ, List.getElem?_cons_zero]; rfl)
              case hy66 => ((refine .inl ⟨by rfl, ?_⟩); intro w hS; go_simp; (try with_reducible rfl))
              case hq66 => exact fun _ _ _ h => h
              (simp only [Act.put, List.setIfInBounds_toArray, List.set_cons_zero, List.set_cons_succ])
              refine wpAnyH_take (i := 29) (oi := ?o67) (v := ?v67) ?hi67 (by kernel_rfl) (by kernel_rfl) (by kernel_rfl) ?hq67 ?hy67 (by assumption) ?hr67
              case hi67 => (simp only [List.getElem?_toArray, List.getElem?_cons_succ, List.getElem?_cons_zero]; rfl)
              case hy67 => ((refine .inl ⟨by rfl, ?_⟩); intro w hS; go_simp; (try with_reducible rfl))
              case hq67 => exact fun _ _ _ h => h
              (simp only [Act.put, List.setIfInBounds_toArray, List.set_cons_zero, List.set_cons_succ])
              refine wpAnyH_take (i := 30) (oi := ?o68) (v := undef) ?hi68 (by kernel_rfl) (by kernel_rfl) (by kernel_rfl) ?hq68 ?hy68 (by assumption) ?hr68
              case hi68 => (simp only [List.getElem?_toArray, List.getElem?_cons_succ, List.getElem?_cons_zero]; rfl)
              case hy68 => exact .inr ⟨by rfl, rfl⟩
              case hq68 => exact fun _ _ _ h => h
              (simp only [Act.put, List.setIfInBounds_toArray, List.set_cons_zero, List.set_cons_succ])
              refine wpAnyH_take (i := 31) (oi := ?o69) (v := undef) ?hi69 (by kernel_rfl) (by kernel_rfl) (by kernel_rfl) ?hq69 ?hy69 (by assumption) ?hr69
              case hi69 => (simp only [List.getElem?_toArray, List.getElem?_cons_succ, List.getElem?_cons_zero]; rfl)
              case hy69 => exact .inr ⟨by rfl, rfl⟩
              case hq69 => exact fun _ _ _ h => h
              (simp only [Act.put, List.setIfInBounds_toArray, List.set_cons_zero, List.set_cons_succ])
              refine wpAnyH_take (i := 32) (oi := ?o70) (v := undef) ?hi70 (by kernel_rfl) (by kernel_rfl) (by kernel_rfl) ?hq70 ?hy70 (by assumption) ?hr70
              case hi70 => (simp only [List.getElem?_toArray, List.getElem?_cons_succ, List.getElem?_cons_zero]; rfl)
              case hy70 => exact .inr ⟨by rfl, rfl⟩
              case hq70 => exact fun _ _ _ h => h
              (simp only [Act.put, List.setIfInBounds_toArray, List.set_cons_zero, List.set_cons_succ])
              refine wpAnyH_take (i := 33) (oi := ?o71) (v := undef) ?hi71 (by kernel_rfl) (by kernel_rfl) (by kernel_rfl) ?hq71 ?hy71 (by assumption) ?hr71
              case hi71 => (simp only [List.getElem?_toArray, List.getElem?_cons_succ, List.getElem?_cons_zero]; rfl)
              case hy71 => exact .inr ⟨by rfl, rfl⟩
              case hq71 => exact fun _ _ _ h => h
              (simp only [Act.put, List.setIfInBounds_toArray, List.set_cons_zero, List.set_cons_succ])
              refine wpAnyH_take (i := 34) (oi := ?o72) (v := undef) ?hi72 (by kernel_rfl) (by kernel_rfl) (by kernel_rfl) ?hq72 ?hy72 (by assumption) ?hr72
              case hi72 => (simp only [List.getElem?_toArray, List.getElem?_cons_succ, List.getElem?_cons_zero]; rfl)
              case hy72 => exact .inr ⟨by rfl, rfl⟩
              case hq72 => exact fun _ _ _ h => h
              (simp only [Act.put, List.setIfInBounds_toArray, List.set_cons_zero, List.set_cons_succ])
              refine wpAnyH_take (i := 35) (oi := ?o73) (v := undef) ?hi73 (by kernel_rfl) (by kernel_rfl) (by kernel_rfl) ?hq73 ?hy73 (by assumption) ?hr73
              case hi73 => (simp only [List.getElem?_toArray, List.getElem?_cons_succ, List.getElem?_cons_zero]; rfl)
              case hy73 => exact .inr ⟨by rfl, rfl⟩
              case hq73 => exact fun _ _ _ h => h
              (simp only [Act.put, List.setIfInBounds_toArray, List.set_cons_zero, List.set_cons_succ])
              refine wpAnyH_take (i := 36) (oi := ?o74) (v := undef) ?hi74 (by kernel_rfl) (by kernel_rfl) (by kernel_rfl) ?hq74 ?hy74 (by assumption) ?hr74
              case hi74 => (simp only [List.getElem?_toArray, List.getElem?_cons_succ, List.getElem?_cons_zero]; rfl)
              case hy74 => exact .inr ⟨by rfl, rfl⟩
              case hq74 => exact fun _ _ _ h => h
              (simp only [Act.put, List.setIfInBounds_toArray, List.set_cons_zero, List.set_cons_succ])
              refine wpAnyH_take (i := 37) (oi := ?o75) (v := ?v75) ?hi75 (by kernel_rfl) (by kernel_rfl) (by kernel_rfl) ?hq75 ?hy75 (by assumption) ?hr75
              case hi75 => (simp only [List.getElem?_toArray, List.getElem?_cons_succ, List.getElem?_cons_zero]; rfl)
              case hy75 => ((refine .inl ⟨by rfl, ?_⟩); intro w hS; go_simp; (try with_reducible rfl))
              case hq75 => exact fun _ _ _ h => h
              (simp only [Act.put, List.setIfInBounds_toArray, List.set_cons_zero, List.set_cons_succ])
              refine wpAnyH_take (i := 38) (oi := ?o76) (v := ?v76) ?hi76 (by kernel_rfl) (by kernel_rfl) (by kernel_rfl) ?hq76 ?hy76 (by assumption) ?hr76
              case hi76 => (simp only [List.getElem?_toArray, List.getElem?_cons_succ, List.getElem?_cons_zero]; rfl)
              case hy76 => ((refine .inl ⟨by rfl, ?_⟩); intro w hS; go_simp; (try with_reducible rfl))
              case hq76 => exact fun _ _ _ h => h
              (simp only [Act.put, List.setIfInBounds_toArray, List.set_cons_zero, List.set_cons_succ])
              refine wpAnyH_done (by kernel_rfl) ?_ _
              go_wp2_with fail
              go_roundw
              case rel => first | exact ⟨k + 1, hlt, by go_num, hHeld⟩ | exact ⟨_, ⟨k + 1, hlt, by simp, hHeld⟩, rfl⟩ | exact ⟨_, _, ⟨k + 1, hlt, by simp, hHeld⟩, rfl, rfl⟩
              case measure => simp [intOf]; omega
          · have hge : ¬ (k : Int) < (lA : Int) := by omega
            go_wp2_with fail
            go_ret
            exact ⟨rfl, HBw.out.trans (hbel.mono HBw.out.size)⟩
end Go.Proofs.Ytdmdfpdigoijoaa
