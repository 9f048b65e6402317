/-
  circ.Scratch: any scratches.
-/
import Derived.Test.YtlnjphggfbiabaaGreatMEb
import Derived.Test.YtlnjphggfbiabaaGreatMLka
namespace Go.Proofs.YtlnjphggfbiabaaGreat
open Go.RowKit
set_option linter.unusedVariables false

def fitB (p : Int × Int) (n : Nat) : Bool := decide (0 ≤ p.1) && decide (1 ≤ p.2) && decide (p.2 ≤ (n : Int)) && decide (p.1 ≤ (n : Int) - p.2)
theorem fits_any (a c : Int) (n : Nat) (w : World) (h3 : n ≤ 1000000) (ha : -9223372036854775808 ≤ a ∧ a ≤ 9223372036854775807) (hc : -9223372036854775808 ≤ c ∧ c ≤ 9223372036854775807) : Calls Tryz.prog 25 #[.agg #[.int .i64 a, .int .i64 c], .int .i64 (n : Int)] w fun e w' => e = .returned (.bool (fitB (a, c) n)) ∧ Below w.heap.size w w' := by
  have hrb : RowAt (w.alloc (.cells #[.int .i64 a, .int .i64 c] 28)) w.heap.size 28 #[.int .i64 a, .int .i64 c] := RowAt.new _ _ _
  have q := hrb.cell
  obtain ⟨ha1, ha2⟩ := ha
  obtain ⟨hc1, hc2⟩ := hc
  obtain ⟨r, hr⟩ : ∃ r, fitB (a, c) n = r := ⟨_, rfl⟩
  rw [hr]
  clear hrb
  by_cases a1 : (0 : Int) ≤ a
  · by_cases a2 : (1 : Int) ≤ c
    · by_cases a3 : c ≤ (n : Int)
      · by_cases a4 : a ≤ (n : Int) - c
        · have e : r = true := by rw [← hr]; simp [fitB, a1, a2, a3, a4]
          clear hr
          subst e
          go_enter Tryz.func25, Tryz.ntmps25
          go_wp2_with fail
          go_ret
          exact ⟨rfl, (Below.refl _ _).alloc (Nat.le_refl _) _⟩
        · have e : r = false := by rw [← hr]; simp [fitB, a1, a2, a3, a4]
          clear hr
          subst e
          go_enter Tryz.func25, Tryz.ntmps25
          go_wp2_with fail
          go_ret
          exact ⟨rfl, (Below.refl _ _).alloc (Nat.le_refl _) _⟩
      · have e : r = false := by rw [← hr]; simp [fitB, a1, a2, a3]
        clear hr
        subst e
        go_enter Tryz.func25, Tryz.ntmps25
        go_wp2_with fail
        go_ret
        exact ⟨rfl, (Below.refl _ _).alloc (Nat.le_refl _) _⟩
    · have e : r = false := by rw [← hr]; simp [fitB, a1, a2]
      clear hr
      subst e
      go_enter Tryz.func25, Tryz.ntmps25
      go_wp2_with fail
      go_ret
      exact ⟨rfl, (Below.refl _ _).alloc (Nat.le_refl _) _⟩
  · have e : r = false := by rw [← hr]; simp [fitB, a1]
    clear hr
    subst e
    go_enter Tryz.func25, Tryz.ntmps25
    go_wp2_with fail
    go_ret
    exact ⟨rfl, (Below.refl _ _).alloc (Nat.le_refl _) _⟩
def blankK (out : List ByteArray) (a : Nat) : Nat → List ByteArray
  | 0 => out
  | j + 1 => (blankK out a j).set (a + j) ⟨#[]⟩
theorem blankK_length (out : List ByteArray) (a : Nat) : ∀ j, (blankK out a j).length = out.length
  | 0 => rfl
  | j + 1 => by rw [blankK, List.length_set, blankK_length]
theorem blankK_get (out : List ByteArray) (a : Nat) (g : Nat) : ∀ j, (blankK out a j)[g]? = if a ≤ g ∧ g < a + j ∧ g < out.length then some ⟨#[]⟩ else out[g]?
  | 0 => by rw [if_neg (by omega)]; rfl
  | j + 1 => by
    rw [blankK, List.getElem?_set, blankK_length, blankK_get out a g j]
    by_cases h : a + j = g
    · subst h
      by_cases h2 : a + j < out.length
      · rw [if_pos rfl, if_pos h2, if_pos (by omega)]
      · rw [if_pos rfl, if_neg h2, if_neg (by omega), List.getElem?_eq_none (by omega)]
    · rw [if_neg h]
      by_cases h2 : a ≤ g ∧ g < a + j ∧ g < out.length
      · rw [if_pos h2, if_pos (by omega)]
      · rw [if_neg h2, if_neg (by omega)]
def scrS (out : List ByteArray) (l : List (Int × Int)) : List ByteArray := l.foldl (fun o p => blankK o p.1.toNat p.2.toNat) out
theorem scrS_length : ∀ (l : List (Int × Int)) (out : List ByteArray), (scrS out l).length = out.length
  | [], _ => rfl
  | p :: l, out => by
    show (scrS (blankK out _ _) l).length = _
    rw [scrS_length l, blankK_length]
/-- Each frame is as it was, or empty. -/
theorem scrS_get : ∀ (l : List (Int × Int)) (out : List ByteArray) (g : Nat), (scrS out l)[g]? = out[g]? ∨ (scrS out l)[g]? = some ⟨#[]⟩
  | [], _, _ => .inl rfl
  | p :: l, out, g => by
    show (scrS (blankK out _ _) l)[g]? = _ ∨ (scrS (blankK out _ _) l)[g]? = _
    rcases scrS_get l (blankK out p.1.toNat p.2.toNat) g with h | h
    · rw [h, blankK_get]
      split
      · exact .inr rfl
      · exact .inl rfl
    · exact .inr h
theorem scrS_take {out : List ByteArray} {l : List (Int × Int)} {k : Nat} {p : Int × Int} (h : l[k]? = some p) : scrS out (l.take (k + 1)) = blankK (scrS out (l.take k)) p.1.toNat p.2.toNat := by
  unfold scrS
  rw [List.take_add_one, h]
  simp
/-- What Scratch answers. -/
def ScrRes (L : List ByteArray) (l : List (Int × Int)) (w : World) (e : Ending) (w' : World) : Prop :=
  Below w.heap.size w w' ∧ ((l.all (fitB · L.length) = false ∧ e = .returned (.tuple #[.slice none 0 0, .int .i64 1])) ∨
    (l.all (fitB · L.length) = true ∧ ∃ A c, e = .returned (.tuple #[.slice A L.length c, .int .i64 0]) ∧ w'.ownsRow w.heap.size 9 1 (.slice A L.length c) L.length (strV (scrS L l))))
theorem strV_one (l : List ByteArray) : ∀ u ∈ strV l, u.oneCell' = true := fun u hu => by
  obtain ⟨b, _, rfl⟩ := List.mem_map.1 hu
  rfl
set_option maxRecDepth 100000 in
set_option maxHeartbeats 4000000 in
theorem scratch_any (L : List ByteArray) (l : List (Int × Int)) (A A' : Option Addr) (c c' : Nat) (w : World) (h : SlAt w w.heap.size A (strV L)) (h' : SlAt w w.heap.size A' (flat encI l)) (hL : L.length ≤ 10000) (hL0 : 0 < L.length) (hl : l.length ≤ 1000) (hi : ∀ p ∈ l, (-9223372036854775808 ≤ p.1 ∧ p.1 ≤ 9223372036854775807) ∧ (-9223372036854775808 ≤ p.2 ∧ p.2 ≤ 9223372036854775807)) :
    Calls Tryz.prog 13 #[.slice A L.length c, .slice A' l.length c'] w (ScrRes L l w) := by
  have HS := Lib.hid h
  have HS' := Lib.hid h'
  have HI := Lib.hid hi
  obtain ⟨n, hn⟩ : ∃ n, L.length = n := ⟨_, rfl⟩
  obtain ⟨m, hm⟩ : ∃ m, l.length = m := ⟨_, rfl⟩
  have HN := Lib.hid hn
  have HM := Lib.hid hm
  have HO := Lib.hid (World.ownsRow_lit (base := w.heap.size) (e := 9) (size := 1) w #[] 0 (Nat.le_refl _) (by decide) rfl)
  rw [hn] at hL hL0 ⊢
  rw [hm] at hl ⊢
  clear h h' hi hn hm
  go_enter Tryz.func13, Tryz.ntmps13
  go_wp2_with (at_builtin; refine wpList_appX HO.out info_string Tryz.underlying37 rfl (by decide) (by rw [strV_length, HN.out, Nat.mul_one]) (HS.out.below ((Below.refl _ _).alloc (Nat.le_refl _) _)) (strV_one _) (by unfold maxLen; omega) (by omega) (by simp) rfl rfl (by rfl) (by rfl) ?_; intro v1 w1 hown1 hg1 hv1; have HB1 : Hid (Below w.heap.size w w1) := Lib.hid (((Below.refl _ _).alloc (Nat.le_refl _) _).grown hg1 (by simp) (fun k hk => (HO.out.lt k hk).1)); rw [Nat.zero_add, List.nil_append] at hown1; obtain ⟨g1, c1, hv1, hg1a, hg1b, hg1c⟩ := own_form hown1 hL0; subst hv1; have HO1 := Lib.hid hown1; clear hown1 hg1 hv1)
  go_loopw [15] (fun i wr => ∃ k : Nat, k ≤ m ∧ i = .int .i64 (k : Int) ∧ wr.ownsRow w.heap.size 9 1 (.slice (some ⟨g1, 0, none⟩) n c1) n (strV (scrS L (l.take k))) ∧ Below w.heap.size w wr ∧ Hid ((l.take k).all (fitB · n) = true)) (fun i _ => m - (intOf i).toNat)
  case atStart => exact ⟨0, by omega, rfl, HO1.out, HB1.out, Lib.hid (by simp)⟩
  case round =>
    clear HO1 HB1
    obtain ⟨k, hk, rfl, hown, hbel, HF⟩ := hrel
    have HOW := Lib.hid hown
    have HBE := Lib.hid hbel
    by_cases hkm : k < m
    · obtain ⟨x, hx⟩ : ∃ x, l[k]? = some x := ⟨l[k]'(by rw [HM.out]; exact hkm), List.getElem?_eq_getElem _⟩
      obtain ⟨b0, o0, hA0, hb0⟩ : ∃ b off, A' = some ⟨b, off, none⟩ ∧ b < w.heap.size := by
        obtain ⟨b, off, hA, hb, _⟩ := SlAt.one HS'.out (by rw [flat_length encI_length, HM.out]; omega)
        exact ⟨b, off, hA, hb⟩
      subst hA0
      obtain ⟨q1, q2⟩ := (HS'.out.below hbel).pairI hx
      have hxi := HI.out x (List.mem_of_getElem? hx)
      have HT : Hid (scrS L (l.take (k + 1)) = blankK (scrS L (l.take k)) x.1.toNat x.2.toNat) := Lib.hid (scrS_take hx)
      have HFN : Hid ((l.take (k + 1)).all (fitB · n) = fitB x n) := Lib.hid (by rw [List.take_add_one, hx, List.all_append, HF.out]; simp)
      have HFA : Hid (fitB x n = false → l.all (fitB · n) = false) := Lib.hid (fun hf => by
        rw [List.all_eq_false]
        exact ⟨x, List.mem_of_getElem? hx, by rw [hf]; simp⟩)
      obtain ⟨x1, x2⟩ := x
      dsimp only at q1 q2 HT
      have CF := Lib.hid (fun w' => fits_any x1 x2 n w' (by omega) hxi.1 hxi.2)
      have hkI : (k : Int) < (m : Int) := by omega
      have h0k : (0 : Int) ≤ (k : Int) := by omega
      clear hown hbel hx
      cases hfb : fitB (x1, x2) n with
      | false =>
        rw [hfb] at CF
        have HFF := HFA.out hfb
        clear HFA
        go_wp2_with fail
        refine (CF.out _).mono ?_
        rintro e w2 ⟨rfl, hb2⟩
        have HB2 := Lib.hid ((HBE.out.alloc HBE.out.size (.cells #[.int .i64 x1, .int .i64 x2] 28)).trans (hb2.mono (by have := HBE.out.size; simp; omega)))
        clear hb2
        go_wp2_with fail
        go_ret2
        exact ⟨HB2.out, .inl ⟨by rw [HN.out]; exact HFF, rfl⟩⟩
      | true =>
        rw [hfb] at CF
        have HFT : Hid ((l.take (k + 1)).all (fitB · n) = true) := Lib.hid (by rw [HFN.out, hfb])
        have hfx : (0 : Int) ≤ x1 ∧ 1 ≤ x2 ∧ x2 ≤ (n : Int) ∧ x1 ≤ (n : Int) - x2 := by simpa [fitB, Bool.and_eq_true, and_assoc] using hfb
        obtain ⟨a, rfl⟩ : ∃ a : Nat, x1 = (a : Int) := ⟨x1.toNat, by omega⟩
        obtain ⟨d, rfl⟩ : ∃ d : Nat, x2 = (d : Int) := ⟨x2.toNat, by omega⟩
        clear HFA HFN hfb hxi
        go_wp2_with fail
        refine (CF.out _).mono ?_
        rintro e w2 ⟨rfl, hb2⟩
        have HB2 := Lib.hid ((HBE.out.alloc HBE.out.size (.cells #[.int .i64 (a : Int), .int .i64 (d : Int)] 28)).trans (hb2.mono (by have := HBE.out.size; simp; omega)))
        have HO2 := Lib.hid (own_all (HOW.out.alloc (.cells #[.int .i64 (a : Int), .int .i64 (d : Int)] 28)) hb2)
        have hsb := (RowAt.new wr 28 #[.int .i64 (a : Int), .int .i64 (d : Int)]).below hb2 (by simp)
        have qs := hsb.cell
        have HSB := Lib.hid hsb
        have HGS : Hid (g1 < wr.heap.size) := Lib.hid (HOW.out.lt g1 rfl).2
        generalize wr.heap.size = sb at *
        clear hsb hb2 CF HOW HBE
        go_wp2_with fail
        go_loopw [26] (fun i wx => ∃ (j : Nat), j ≤ d ∧ i = .int .i64 (j : Int) ∧ wx.ownsRow w.heap.size 9 1 (.slice (some ⟨g1, 0, none⟩) n c1) n (strV (blankK (scrS L (l.take k)) a j)) ∧ Below w.heap.size w wx ∧ RowAt wx sb 28 #[.int .i64 (a : Int), .int .i64 (d : Int)]) (fun i _ => d - (intOf i).toNat)
        case atStart => exact ⟨0, by omega, rfl, HO2.out, HB2.out, HSB.out⟩
        case round =>
          clear HO2 HB2 HSB qs
          obtain ⟨j, hj, rfl, hown, hbel, hsb⟩ := hrel
          have qs := hsb.cell
          have HX := Lib.hid hown
          have HY := Lib.hid hbel
          have HZ := Lib.hid hsb
          by_cases hjd : j < d
          · have q4 := hown.cellAt (a + j) (by omega)
            have hln : (blankK (scrS L (l.take k)) a j).length = n := by rw [blankK_length, scrS_length, HN.out]
            obtain ⟨y, hy⟩ : ∃ y, (blankK (scrS L (l.take k)) a j)[a + j]? = some y := ⟨_, List.getElem?_eq_getElem (by omega)⟩
            rw [strV_get hy] at q4
            have f4 := hown.frozenAt (a + j)
            have hjI : (j : Int) < (d : Int) := by omega
            have h0j : (0 : Int) ≤ (j : Int) := by omega
            have h0i : (0 : Int) ≤ (a : Int) + (j : Int) := by omega
            have hiI : (a : Int) + (j : Int) < (n : Int) := by omega
            have eti : ((a : Int) + (j : Int)).toNat = a + j := by omega
            clear hown hbel hsb hy hln
            go_wp2_with fail
            go_roundw
            case rel =>
              have h9 := (HX.out.stored (a + j) (.string ⟨#[]⟩)).1
              rw [strV_set] at h9
              exact ⟨j + 1, by omega, by go_num, h9, HY.out.setCell (p := ⟨g1, a + j, none⟩) hg1a _, HZ.out.far (p := ⟨g1, a + j, none⟩) (by show sb ≠ g1; have := HGS.out; omega) _⟩
            case measure => simp [intOf]; omega
          · obtain rfl : j = d := by omega
            have hjI : ¬ (j : Int) < (j : Int) := by omega
            clear hown hbel hsb
            go_wp2_with fail
            go_roundw
            case rel =>
              have h9 := HX.out
              rw [← show scrS L (l.take (k + 1)) = blankK (scrS L (l.take k)) a j from HT.out] at h9
              exact ⟨k + 1, by omega, by first | go_num | (congr 1; show (k : Int) + 1 = _; omega), h9, HY.out, HFT⟩
            case measure => simp [intOf]; omega
    · obtain rfl : k = m := by omega
      have hkI : ¬ (k : Int) < (k : Int) := by omega
      clear hown hbel
      go_wp2_with fail
      go_ret2
      have h9 := HOW.out
      have h10 := HF.out
      rw [List.take_of_length_le (by rw [HM.out]; exact Nat.le_refl _)] at h9 h10
      exact ⟨HBE.out, .inr ⟨by rw [HN.out]; exact h10, some ⟨g1, 0, none⟩, c1, by rw [HN.out]; rfl, by rw [HN.out]; exact h9⟩⟩
end Go.Proofs.YtlnjphggfbiabaaGreat
