/-
  Record of the program.
-/
import Derived.Test.YticmopgpfplbnaaRRec
namespace Go.Proofs.Yticmopgpfplbnaa
open Go.RowKit
set_option linter.unusedVariables false

/-- The state of Record: t sectors stand in the row that cell go holds; what Split made is as it was. -/
structure RecSt (N : Nat) (s : Int) (ss : List ByteArray) (w w1 : World) (go gs t : Nat) (A : Option Addr) (c : Nat) (wr : World) : Prop where
  bel : Below w.heap.size w wr
  size : w1.heap.size ≤ wr.heap.size
  kept : ∀ k, k < w1.heap.size → k ≠ go → wr.heap[k]? = w1.heap[k]?
  out : RowAt wr go 38 #[.slice A t c]
  start : RowAt wr gs 3 #[.int .i64 s]
  own : wr.ownsRow w1.heap.size 53 7 (.slice A t c) t (flat encS (recUp N s ss t))
section
variable {N : Nat} {s : Int} {ss : List ByteArray} {w w1 wr wr' : World} {go gs t c : Nat} {A : Option Addr}
theorem RecSt.call (hb : Below wr.heap.size wr wr') (h : RecSt N s ss w w1 go gs t A c wr) : RecSt N s ss w w1 go gs t A c wr' :=
  ⟨h.bel.trans (hb.mono h.bel.size), Nat.le_trans h.size hb.size, fun k hk hg => (hb.block k (Nat.lt_of_lt_of_le hk h.size)).trans (h.kept k hk hg), h.out.below hb h.out.lt, h.start.below hb h.start.lt, own_all h.own hb⟩
theorem RecSt.cell (h : RecSt N s ss w w1 go gs t A c wr) {b o : Nat} (hb : b < w1.heap.size) (hg : b ≠ go) {v : Value} (hc : w1.cell? ⟨b, o, none⟩ = some v) : wr.cell? ⟨b, o, none⟩ = some v :=
  (World.cell?_of_block (h.kept b hb hg)).trans hc
/-- The closure's call. -/
theorem RecSt.add (h : RecSt N s ss w w1 go gs t A c wr) (hgo : w.heap.size ≤ go) (hgs : gs < go) (hgo1 : go < w1.heap.size) {d : ByteArray} {r k : Nat} (ht : t = r * (N + 7) + k) (hk : k < N + 7) (hd : recD N ss r k = d) (hn : t ≤ 500000) (hs0 : 0 ≤ s) (hs1 : s ≤ 449849) :
    Calls Try.prog 36 #[.string d, .pointer (some ⟨go, 0, none⟩), .pointer (some ⟨gs, 0, none⟩)] wr fun e w' => e = .returned (.tuple #[]) ∧ ∃ A' c', RecSt N s ss w w1 go gs (t + 1) A' c' w' := by
  refine (add_any d s t c (recUp N s ss t) A w1.heap.size go gs wr h.out h.start h.own hn hs0 (by omega) h.size).mono ?_
  rintro e w' ⟨he, A', c', w2, hg, hown, rfl⟩
  rw [recUp_snoc ht hk hd] at hown
  have hne : some go ≠ (Value.slice A t c).ownBlock := fun e => own_row_ne h.own h.out (by decide) go e.symm rfl
  have hne2 : some gs ≠ (Value.slice A t c).ownBlock := fun e => own_row_ne h.own h.start (by decide) gs e.symm rfl
  have hb : Below w1.heap.size wr w2 := (Below.refl _ _).grown hg h.size fun k hk => (h.own.lt k hk).1
  refine ⟨he, A', c', ?_, ?_, ?_, ?_, ?_, ?_⟩
  · exact (h.bel.grown hg h.bel.size fun k hk => Nat.le_trans (by omega) (h.own.lt k hk).1).setCell (p := ⟨go, 0, none⟩) hgo _
  · have := hb.size
    rw [World.size_setCell]
    exact Nat.le_trans h.size this
  · intro k hk hkg
    have h1 : (w2.setCell ⟨go, 0, none⟩ (.slice A' (t + 1) c')).heap[k]? = w2.heap[k]? := Below.heap_setCell w2 _ _ k hkg
    rw [h1, hb.block k hk]
    exact h.kept k hk hkg
  · exact (h.out.grown hg hne).set_ 0 _
  · exact (h.start.grown hg hne2).far (p := ⟨go, 0, none⟩) (show gs ≠ go by omega) _
  · refine ⟨hown.1, ?_⟩
    rcases hown.2 with ⟨e1, e2⟩ | ⟨g, cap, cur, hv, hg1, hg2, r⟩
    · exact .inl ⟨e1, e2⟩
    · refine .inr ⟨g, cap, cur, hv, hg1, ?_, r⟩
      have h1 : (w2.setCell ⟨go, 0, none⟩ (.slice A' (t + 1) c')).heap[g]? = w2.heap[g]? := Below.heap_setCell w2 _ _ g (show g ≠ go by omega)
      rw [h1]
      exact hg2
end

def offQ (N q : Nat) : Nat := if q = 0 then 0 else if q = 1 then 1 else if q = 2 then 5 else if q = 3 then 5 + N else 7 + N
def cntQ (N q : Nat) : Nat := if q = 0 then 1 else if q = 1 then 4 else if q = 2 then N else 2
theorem offQ_succ {N q : Nat} (h : q < 4) : offQ N (q + 1) = offQ N q + cntQ N q := by
  have : q = 0 ∨ q = 1 ∨ q = 2 ∨ q = 3 := by omega
  rcases this with rfl | rfl | rfl | rfl <;> simp [offQ, cntQ]
  omega
theorem offQ_le {N q : Nat} (h : q < 4) : offQ N q + cntQ N q ≤ N + 7 := by
  have : q = 0 ∨ q = 1 ∨ q = 2 ∨ q = 3 := by omega
  rcases this with rfl | rfl | rfl | rfl <;> simp [offQ, cntQ] <;> omega
theorem cntQ_le {N q : Nat} (h : N ≤ 1024) : cntQ N q ≤ 1024 := by
  unfold cntQ
  repeat' split
  all_goals omega
theorem index_q {N q : Nat} (h : q < 4) (w : World) : (Instr.index 61 (.agg #[.int .i64 1, .int .i64 4, .int .i64 (N : Int), .int .i64 2]) (.int .i64 (q : Int))).run Try.prog w = .ok (.int .i64 ((cntQ N q : Nat) : Int)) w := by
  have i0 : ∀ w, (Instr.index 61 (.agg #[.int .i64 1, .int .i64 4, .int .i64 (N : Int), .int .i64 2]) (.int .i64 0)).run Try.prog w = .ok (.int .i64 1) w := fun _ => by kernel_rfl
  have i1 : ∀ w, (Instr.index 61 (.agg #[.int .i64 1, .int .i64 4, .int .i64 (N : Int), .int .i64 2]) (.int .i64 1)).run Try.prog w = .ok (.int .i64 4) w := fun _ => by kernel_rfl
  have i2 : ∀ w, (Instr.index 61 (.agg #[.int .i64 1, .int .i64 4, .int .i64 (N : Int), .int .i64 2]) (.int .i64 2)).run Try.prog w = .ok (.int .i64 (N : Int)) w := fun _ => by kernel_rfl
  have i3 : ∀ w, (Instr.index 61 (.agg #[.int .i64 1, .int .i64 4, .int .i64 (N : Int), .int .i64 2]) (.int .i64 3)).run Try.prog w = .ok (.int .i64 2) w := fun _ => by kernel_rfl
  have : q = 0 ∨ q = 1 ∨ q = 2 ∨ q = 3 := by omega
  rcases this with rfl | rfl | rfl | rfl
  · exact i0 w
  · exact i1 w
  · exact i2 w
  · exact i3 w
theorem recD_zero {N q i r : Nat} {ss : List ByteArray} (hq : q < 4) (h : q ≠ 2) (hi : i < cntQ N q) : recD N ss r (offQ N q + i) = zeroBlk := by
  have : q = 0 ∨ q = 1 ∨ q = 3 := by omega
  rcases this with rfl | rfl | rfl
  · exact recD_low (by simp [offQ, cntQ] at *; omega)
  · exact recD_low (by simp [offQ, cntQ] at *; omega)
  · exact recD_high (by simp [offQ, cntQ] at *)

theorem rec_size (n s : Int) (A : Option Addr) (c : Nat) (ss : List ByteArray) (w : World) (h : sizedB n = false) :
    Calls Try.prog 21 #[.int .i64 n, .int .i64 s, .slice A ss.length c] w (RecR n s ss w) := by
  have HN := Lib.hid (show splitOk n ss = false by unfold splitOk; rw [h]; rfl)
  have C := Lib.hid (fun w => sized_any n w)
  rw [h] at C
  clear h
  go_enter Try.func21, Try.ntmps21
  go_wp2_with fail
  refine (C.out _).mono ?_
  rintro e w1 ⟨rfl, rfl⟩
  go_wp2_with fail
  go_ret2
  exact RecR.arg HN.out rfl ((Below.refl _ _).alloc (Nat.le_refl _) _)

theorem ne_out {w : World} {go b o : Nat} {v : Value} {T : TypeId} (h : RowAt w go T #[.slice none 0 0]) (hc : w.cell? ⟨b, o, none⟩ = some v) (hv : v ≠ .slice none 0 0) : b ≠ go := by
  rintro rfl
  rw [h.cell o] at hc
  cases o with
  | zero => simp at hc; exact hv hc.symm
  | succ n => simp at hc

set_option maxRecDepth 100000 in
set_option maxHeartbeats 4000000 in
theorem rec_go (N : Nat) (s : Int) (A : Option Addr) (c : Nat) (ss : List ByteArray) (w : World) (hN1 : 1 ≤ N) (hN2 : N ≤ 1024) (hs : SlAt w w.heap.size A (ss.map Value.string)) (hl : ss.length ≤ 4096) (hc : ss.length ≤ c) (hcm : c ≤ maxLen) (hz : ∀ s ∈ ss, s.size ≤ maxLen) (hs1 : -9223372036854775808 ≤ s) (hs2 : s ≤ 9223372036854775807) :
    Calls Try.prog 21 #[.int .i64 N, .int .i64 s, .slice A ss.length c] w (RecR N s ss w) := by
  have C := Lib.hid (fun w => sized_any N w)
  have hsz : sizedB N = true := sizedB_of (by omega) (by omega)
  rw [hsz] at C
  have HSL := Lib.hid hs
  have HZ := Lib.hid hz
  have CS : Hid (∀ wx, Below w.heap.size w wx → Calls Try.prog 19 #[.int .i64 N, .slice A ss.length c] wx (SplitR N ss wx)) := fun wx hb => split_any N A c ss wx ((hs.below hb).mono hb.size) (by omega) hc hcm hz
  obtain ⟨len, hlen⟩ : ∃ n, ss.length = n := ⟨_, rfl⟩
  have HL := Lib.hid hlen
  have hq0 : 0 ≤ ((len : Int) + N - 1) / N := Int.ediv_nonneg (by omega) (by omega)
  have hq1 : ((len : Int) + N - 1) / N = ((pkCount N len : Nat) : Int) := by
    unfold pkCount
    rw [Int.natCast_ediv, Int.natCast_sub (by omega), Int.natCast_add]
    rfl
  have hq2 : ((len : Int) + N - 1) / N ≤ 4096 := by rw [hq1]; have := pkCount_le (len := len) hN1; omega
  have hm0 : 0 ≤ ((len : Int) + N - 1) / N * ((N : Int) + 7) := Int.mul_nonneg hq0 (by omega)
  have hm1 : ((len : Int) + N - 1) / N * ((N : Int) + 7) ≤ 5000000 := by
    have := Int.mul_le_mul hq2 (show (N : Int) + 7 ≤ 1031 by omega) (by omega) (by omega)
    omega
  have HT : Hid (((len : Int) + N - 1) / N * ((N : Int) + 7) = ((recN N ss : Nat) : Int)) := by
    rw [hq1]
    show _ = ((pkCount N ss.length * (N + 7) : Nat) : Int)
    rw [hlen, Int.natCast_mul, Int.natCast_add]
    rfl
  rw [hlen] at hl CS ⊢
  unfold maxLen at hcm
  have hcl : len ≤ c := by omega
  clear hlen hs hz hsz hq1 hc
  go_enter Try.func21, Try.ntmps21
  go_wp2_with fail
  refine (C.out _).mono ?_
  rintro e w1 ⟨rfl, rfl⟩
  go_wp2_with fail
  go_loop [25] (fun i => ∃ k : Nat, k ≤ len ∧ i = .int .i64 k ∧ Hid (∀ (j : Nat) s, j < k → ss[j]? = some s → s.size = 2048)) (fun i => len - (intOf i).toNat)
  case atStart => exact ⟨0, by omega, rfl, fun j s hj => by omega⟩
  case round =>
    obtain ⟨k, hk, rfl, HS⟩ := hrel
    by_cases hlt : k < len
    · obtain ⟨x, hs1⟩ : ∃ s, ss[k]? = some s := ⟨ss[k]'(by rw [HL.out]; exact hlt), List.getElem?_eq_getElem _⟩
      obtain ⟨b, off, hA, hb, hcell⟩ := HSL.out.one (by rw [List.length_map, HL.out]; omega)
      subst hA
      have g1 := hcell k (.string x) (by simp [hs1])
      have hsm := HZ.out x (List.mem_of_getElem? hs1)
      unfold maxLen at hsm
      have hltI : (k : Int) < (len : Int) := by omega
      have h0k : (0 : Int) ≤ (k : Int) := by omega
      have HK := Lib.hid hs1
      clear hs1 hcell
      by_cases hz : x.size = 2048
      · have hz' : ((x.size : Int) != 2048) = false := by rw [hz]; rfl
        have HZ2 := Lib.hid hz
        clear hz
        go_wp2_with fail
        go_round
        case rel =>
          refine ⟨k + 1, by omega, by go_num, fun j y hj hy => ?_⟩
          by_cases hjk : j = k
          · subst hjk
            rw [HK.out] at hy
            injection hy with hy
            subst hy
            exact HZ2.out
          · exact HS.out j y (by omega) hy
        case measure => simp [intOf]; omega
      · have hz' : ((x.size : Int) != 2048) = true := by rw [bne_iff_ne]; omega
        have HN := Lib.hid (show splitOk N ss = false by unfold splitOk; rw [blks_no HK.out hz, Bool.and_false])
        clear hz
        go_wp2_with fail
        go_ret2
        exact RecR.arg HN.out rfl ((Below.refl _ _).alloc (Nat.le_refl _) _)
    · obtain rfl : k = len := by omega
      have hge : ¬ (k : Int) < (k : Int) := by omega
      have hok : splitOk N ss = true := by
        unfold splitOk
        rw [sizedB_of (by omega) (by omega), blks_all fun j s hj => HS.out j s (by have := (List.getElem?_eq_some_iff.1 hj).1; rw [HL.out] at this; exact this) hj]
        rfl
      have HN := Lib.hid hok
      clear hok HS
      have hNz : ¬ ((N : Int) = 0) := by omega
      have hbad : ∀ h : s < 0 ∨ 449849 < s ∨ 449849 < s + ((k : Int) + N - 1) / N * ((N : Int) + 7) - 1, recFit N s ss = false := by
        intro h
        refine decide_eq_false fun hh => ?_
        have := HT.out
        omega
      by_cases h1 : s < 0
      · have HF := Lib.hid (hbad (.inl h1))
        clear hbad
        go_wp2_with fail
        go_ret2
        exact RecR.range HN.out HF.out rfl ((Below.refl _ _).alloc (Nat.le_refl _) _)
      · by_cases h2 : 449849 < s
        · have HF := Lib.hid (hbad (.inr (.inl h2)))
          clear hbad
          go_wp2_with fail
          go_ret2
          exact RecR.range HN.out HF.out rfl ((Below.refl _ _).alloc (Nat.le_refl _) _)
        · by_cases h3 : 449849 < s + ((k : Int) + N - 1) / N * ((N : Int) + 7) - 1
          · have HF := Lib.hid (hbad (.inr (.inr h3)))
            clear hbad
            go_wp2_with fail
            go_ret2
            exact RecR.range HN.out HF.out rfl ((Below.refl _ _).alloc (Nat.le_refl _) _)
          · have hfit : recFit N s ss = true := by
              refine decide_eq_true ?_
              have := HT.out
              omega
            have HF := Lib.hid hfit
            have h1' : 0 ≤ s := by omega
            have h2' : s ≤ 449849 := by omega
            have h3' : s + ((k : Int) + N - 1) / N * ((N : Int) + 7) - 1 ≤ 449849 := by omega
            have hTs : recN N ss ≤ 449850 := by have := HT.out; omega
            obtain ⟨T, hT⟩ : ∃ T, recN N ss = T := ⟨_, rfl⟩
            have HTT := Lib.hid hT
            rw [hT] at hTs
            clear hbad hfit hT h1 h2 h3
            have hlen4 : ¬ (4096 : Int) < (k : Int) := by omega
            go_wp2_with fail
            have hb0 : Below w.heap.size w ((w.alloc (.cells #[.int .i64 s] 3)).alloc (.cells #[.slice none 0 0] 38)) := ((Below.refl _ _).alloc (Nat.le_refl _) _).alloc (by simp) _
            refine (CS.out _ hb0).mono ?_
            intro e w2 h2
            obtain ⟨hb2, A1, c1, hh1, cnt, hcnt, rfl, hsl1, hlen1, hp1⟩ := h2.yes HN.out
            have r0 : RowAt w2 (w.heap.size + 1) 38 #[.slice none 0 0] := by
              have := (RowAt.new (w.alloc (.cells #[.int .i64 s] 3)) 38 #[.slice none 0 0]).below hb2 (by simp)
              simpa using this
            have r1 : RowAt w2 w.heap.size 3 #[.int .i64 s] := ((RowAt.new w 3 #[.int .i64 s]).alloc _).below hb2 (by simp; omega)
            have hb2w : Below w.heap.size w w2 := hb0.trans (hb2.mono hb0.size)
            have hst0 : RecSt N s ss w w2 (w.heap.size + 1) w.heap.size 0 none 0 w2 := ⟨hb2w, Nat.le_refl _, fun _ _ _ => rfl, r0, r1, World.ownsRow_nil _ _ _ _⟩
            have HST0 := Lib.hid hst0
            have HR0 := Lib.hid r0
            have hgo2 := r0.lt
            have HTC : Hid (T = cnt * (N + 7)) := by
              rw [hcnt]
              exact HTT.out.symm
            have hcT : cnt * 1 ≤ cnt * (N + 7) := Nat.mul_le_mul_left _ (by omega)
            have hcT2 : cnt ≤ T := by rw [HTC.out]; omega
            have HLEN1 := Lib.hid hlen1
            have HP1 := Lib.hid hp1
            have HSL1 := Lib.hid hsl1
            clear h2 hb2 hsl1 hlen1 hp1 hcnt hst0 r0 r1 hb0 hcT
            go_wp2_with fail
            go_loopw [70] (fun i' wr => ∃ (r c' : Nat) (A' : Option Addr), r ≤ cnt ∧ i' = .int .i64 r ∧ RecSt N s ss w w2 (w.heap.size + 1) w.heap.size (r * (N + 7)) A' c' wr) (fun i' _ => cnt - (intOf i').toNat)
            case atStart => exact ⟨0, 0, none, by omega, rfl, by rw [Nat.zero_mul]; exact HST0.out⟩
            case round =>
              obtain ⟨r, c2, A2, hr, rfl, hst⟩ := hrel
              obtain ⟨wo, rfl⟩ : ∃ wo : World, wo = wr := ⟨_, rfl⟩
              by_cases hrc : r < cnt
              · have hrcI : (r : Int) < (cnt : Int) := by omega
                have h0r : (0 : Int) ≤ (r : Int) := by omega
                have hrT : r * (N + 7) + (N + 7) ≤ T := by
                  rw [HTC.out]
                  have := Nat.mul_le_mul_right (N + 7) (show r + 1 ≤ cnt by omega)
                  rw [Nat.succ_mul] at this
                  exact this
                obtain ⟨b1, off1, hA1, hb1, hc1⟩ := HSL1.out.one (by rw [HLEN1.out]; omega)
                obtain ⟨P, cp, hg1, hP⟩ := HP1.out r hrc
                obtain ⟨b2, off2, hP2, hb2, hc2⟩ := hP.one (by rw [List.length_map, pk_length]; omega)
                subst hA1 hP2
                have hx1 := hc1 r _ hg1
                have hne1 := ne_out HR0.out hx1 (by intro e; injection e with e; cases e)
                have g1 := hst.cell hb1 hne1 hx1
                have HC2 := Lib.hid hc2
                have HST := Lib.hid hst
                clear hc1 hg1 hP hc2 hx1 hst
                go_wp2_with fail
                refine (counts_any _ _).mono ?_
                rintro e w3 ⟨rfl, hb3⟩
                have HST3 := Lib.hid (RecSt.call hb3 HST.out)
                clear hb3 g1
                go_wp2_with fail
                go_loopw [76] (fun q' wr => ∃ (q c' : Nat) (A' : Option Addr), q ≤ 4 ∧ q' = .int .i64 q ∧ RecSt N s ss w w2 (w.heap.size + 1) w.heap.size (r * (N + 7) + offQ N q) A' c' wr) (fun q' _ => 4 - (intOf q').toNat)
                case atStart => exact ⟨0, c2, A2, by omega, rfl, HST3.out⟩
                case round =>
                  clear HST HST3
                  obtain ⟨q, c3, A3, hq, rfl, hst⟩ := hrel
                  obtain ⟨wq, rfl⟩ : ∃ wq : World, wq = wr := ⟨_, rfl⟩
                  by_cases hq4 : q < 4
                  · have hqI : (q : Int) < 4 := by omega
                    have hq0' : (0 : Int) ≤ (q : Int) := by omega
                    have hoff := offQ_le (N := N) hq4
                    have hcq := cntQ_le (q := q) hN2
                    have hidx : ∀ w, _ := fun w => index_q (N := N) hq4 w
                    have HOS := Lib.hid (offQ_succ (N := N) hq4)
                    have HZQ : Hid (q ≠ 2 → ∀ i, i < cntQ N q → recD N ss r (offQ N q + i) = zeroBlk) := fun h2 i hi => recD_zero hq4 h2 hi
                    have HMQ : Hid (q = 2 → offQ N q = 5 ∧ cntQ N q = N) := by rintro rfl; exact ⟨rfl, rfl⟩
                    generalize cntQ N q = n at *
                    generalize offQ N q = o at *
                    have HST := Lib.hid hst
                    clear hst
                    go_wp2_with fail
                    clear hidx
                    go_loopw [81] (fun j' wr => ∃ (j c' : Nat) (A' : Option Addr), j ≤ n ∧ j' = .int .i64 j ∧ RecSt N s ss w w2 (w.heap.size + 1) w.heap.size (r * (N + 7) + (o + j)) A' c' wr) (fun j' _ => n - (intOf j').toNat)
                    case atStart => exact ⟨0, c3, A3, by omega, rfl, HST.out⟩
                    case round =>
                      clear HST
                      obtain ⟨j, c4, A4, hj, rfl, hst⟩ := hrel
                      by_cases hjn : j < n
                      · have hjI : (j : Int) < (n : Int) := by omega
                        have hj0 : (0 : Int) ≤ (j : Int) := by omega
                        by_cases hq2 : q = 2
                        · have hqb : ((q : Int) == 2) = true := by rw [beq_iff_eq]; omega
                          obtain ⟨ho5, hnN⟩ := HMQ.out hq2
                          have hjN : (j : Int) < (N : Int) := by omega
                          have hx2 := HC2.out j (.string (ss[r * N + j]?.getD zeroBlk)) (by rw [List.getElem?_map, pk_get (by omega)]; rfl)
                          have hne2 := ne_out HR0.out hx2 (by intro e; cases e)
                          have g2 := hst.cell hb2 hne2 hx2
                          have hd := recD_mid (N := N) (ss := ss) (r := r) (k := j) (by omega)
                          rw [← ho5] at hd
                          have CA := Lib.hid (hst.add (by omega) (by omega) hgo2 rfl (by omega) hd (by omega) h1' h2')
                          clear hx2 hst hd hq2 ho5 hnN
                          go_wp2_with fail
                          refine CA.out.mono ?_
                          rintro e w5 ⟨rfl, A5, c5, hst5⟩
                          go_wp2_with fail
                          go_roundw
                          case rel => exact ⟨j + 1, c5, A5, by omega, by go_num, hst5⟩
                          case measure => simp [intOf]; omega
                        · have hqb : ((q : Int) == 2) = false := by rw [beq_eq_false_iff_ne]; omega
                          have hd := HZQ.out hq2 j hjn
                          have HD := Lib.hid hd
                          have HSTJ := Lib.hid hst
                          clear hd hq2 hst
                          go_wp2_with fail
                          refine (zeros_any _).mono ?_
                          rintro e w4 ⟨rfl, hb4⟩
                          have hst4 := RecSt.call hb4 HSTJ.out
                          have CA := Lib.hid (hst4.add (by omega) (by omega) hgo2 rfl (by omega) HD.out (by omega) h1' h2')
                          clear hst4 hb4
                          go_wp2_with fail
                          refine CA.out.mono ?_
                          rintro e w5 ⟨rfl, A5, c5, hst5⟩
                          go_wp2_with fail
                          go_roundw
                          case rel => exact ⟨j + 1, c5, A5, by omega, by go_num, hst5⟩
                          case measure => simp [intOf]; omega
                      · obtain rfl : j = n := by omega
                        have hjI : ¬ (j : Int) < (j : Int) := by omega
                        have HSTJ := Lib.hid hst
                        clear hst
                        go_wp2_with fail
                        go_roundw
                        case rel => exact ⟨q + 1, c4, A4, by omega, by go_num, by rw [HOS.out]; exact HSTJ.out⟩
                        case measure => simp [intOf]; omega
                  · obtain rfl : q = 4 := by omega
                    have HSTJ : Hid (RecSt N s ss w w2 (w.heap.size + 1) w.heap.size ((r + 1) * (N + 7)) A3 c3 wq) := by
                      rw [Nat.succ_mul, show N + 7 = 7 + N by omega]
                      rw [show N + 7 = 7 + N by omega] at hst
                      exact hst
                    clear hst
                    go_wp2_with fail
                    go_roundw
                    case rel => exact ⟨r + 1, c3, A3, by omega, by go_num, HSTJ.out⟩
                    case measure => simp [intOf]; omega
              · obtain rfl : r = cnt := by omega
                have hrcI : ¬ (r : Int) < (r : Int) := by omega
                have q1 := hst.out.cell
                have HST := Lib.hid hst
                clear hst
                go_wp2_with fail
                go_ret2
                exact RecR.ok HN.out HF.out (by rw [HTT.out, HTC.out]) rfl HST.out.bel (SlAt.of_own' HST.out.own (Nat.le_refl _))
theorem rec_any (n s : Int) (A : Option Addr) (c : Nat) (ss : List ByteArray) (w : World) (hs : SlAt w w.heap.size A (ss.map Value.string)) (hl : ss.length ≤ 4096) (hc : ss.length ≤ c) (hcm : c ≤ maxLen) (hz : ∀ s ∈ ss, s.size ≤ maxLen) (hs1 : -9223372036854775808 ≤ s) (hs2 : s ≤ 9223372036854775807) :
    Calls Try.prog 21 #[.int .i64 n, .int .i64 s, .slice A ss.length c] w (RecR n s ss w) := by
  cases h : sizedB n with
  | false => exact rec_size n s A c ss w h
  | true =>
    obtain ⟨N, rfl, h1, h2⟩ := sized_nat h
    exact rec_go N s A c ss w h1 h2 hs hl hc hcm hz hs1 hs2
end Go.Proofs.Yticmopgpfplbnaa
