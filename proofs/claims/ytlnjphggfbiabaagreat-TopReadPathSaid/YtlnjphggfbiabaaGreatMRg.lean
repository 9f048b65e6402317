/-
  reedsolomon: start, Decode (where the division does not begin).
-/
import Derived.Test.YtlnjphggfbiabaaGreatMRf
import Derived.Test.YtlnjphggfbiabaaGreatHeld
import Derived.Deep.CutRange
namespace Go.Proofs.YtlnjphggfbiabaaGreat
open Go.RowKit
set_option linter.unusedVariables false

def xiN (d : List Nat) (par : Nat) (er : List Nat) : List Nat := (prodN (synN d par) (erN d.length er)).take par
theorem xiN_b8 {d : List Nat} (h : B8 d) (par : Nat) (er : List Nat) : B8 (xiN d par er) := (prodN_b8 (synN_b8 h par)).take par
theorem erN_full (L : Nat) (er : List Nat) : (erN L er).length = er.length + 1 ∧ B8 (erN L er) := by
  have := erN_len L er er.length (Nat.le_refl _)
  rwa [List.take_of_length_le (Nat.le_refl _)] at this
theorem xiN_length {d : List Nat} {par : Nat} (er : List Nat) (h0 : 0 < par) : (xiN d par er).length = par := by
  unfold xiN
  have h1 := synN_length d par
  have h2 := (erN_full d.length er).1
  rw [List.length_take, prodN_length (by intro e; rw [e] at h1; simp at h1; omega) (by intro e; rw [e] at h2; cases h2), h1, h2]
  omega
theorem slat_take {w : World} {B : Nat} {A : Option Addr} {xs : List Value} (h : SlAt w B A xs) (k : Nat) : SlAt w B A (xs.take k) := by
  intro j u hu
  rw [List.getElem?_take] at hu
  split at hu
  · exact h j u hu
  · cases hu
theorem natV_take (l : List Nat) (k : Nat) : natV (l.take k) = (natV l).take k := by simp [natV, List.map_take]
/-- Enough of the word and its erased positions. -/
structure DecOk (s : ByteArray) (par : Nat) (er : List Nat) : Prop where
  le : s.size ≤ 255
  p1 : 1 ≤ par
  p2 : par ≤ 16
  ps : par < s.size
  lt : ∀ a ∈ er, a < s.size
  inc : er.Pairwise (· < ·)
  few : er.length ≤ 300
set_option maxRecDepth 100000 in
set_option maxHeartbeats 2000000 in
theorem start_many (s : ByteArray) (par : Nat) (A : Option Addr) (c : Nat) (er : List Nat) (w : World) (h : SlAt w w.heap.size A (posV er)) (hd : DecOk s par er) (hm : par < er.length) :
    Calls Tryz.prog 72 #[.string s, .int .i64 (par : Int), .slice A er.length c] w fun e w' => e = .returned (.tuple #[.slice none 0 0, .slice none 0 0, .int .i64 11]) ∧ Below w.heap.size w w' := by
  obtain ⟨d1, d2, d3, d4, d5, d6, d7⟩ := hd
  have CS := Lib.hid (syndromes_any s par w d1 d2 d3 d4)
  have CE := Lib.hid (fun w' (hb : Below w.heap.size w w') => erasures_any s A c er w' ((h.below hb).mono hb.size) d1 d5 d6 (by omega))
  generalize er.length = n at *
  have hmI : (par : Int) < (n : Int) := by omega
  clear h d1 d2 d3 d4 d5 d6 hm
  go_enter Tryz.func72, Tryz.ntmps72
  go_wp2_with fail
  refine CS.out.mono ?_
  rintro e w1 ⟨hb1, A1, c1, rfl, ho1⟩
  have HB1 := Lib.hid hb1
  clear hb1 ho1 CS
  go_wp2_with fail
  with_reducible refine (CE.out w1 HB1.out).mono ?_
  rintro e w2 ⟨hb2, A2, c2, rfl, ho2⟩
  have HB2 := Lib.hid (HB1.out.trans (hb2.mono HB1.out.size))
  clear hb2 ho2 CE
  go_wp2_with fail
  go_ret3
  exact ⟨rfl, HB2.out⟩
set_option maxRecDepth 100000 in
set_option maxHeartbeats 4000000 in
theorem start_ok (s : ByteArray) (par : Nat) (A : Option Addr) (c : Nat) (er : List Nat) (w : World) (h : SlAt w w.heap.size A (posV er)) (hd : DecOk s par er) (hm : er.length ≤ par) :
    Calls Tryz.prog 72 #[.string s, .int .i64 (par : Int), .slice A er.length c] w fun e w' => Below w.heap.size w w' ∧ ∃ Ag cg Ax cx, e = .returned (.tuple #[.slice Ag (er.length + 1) cg, .slice Ax par cx, .int .i64 0]) ∧ SlAt w' w'.heap.size Ag (natV (erN s.size er)) ∧ SlAt w' w'.heap.size Ax (natV (xiN (sN s) par er)) := by
  obtain ⟨d1, d2, d3, d4, d5, d6, d7⟩ := hd
  have CS := Lib.hid (syndromes_any s par w d1 d2 d3 d4)
  have CE := Lib.hid (fun w' (hb : Below w.heap.size w w') => erasures_any s A c er w' ((h.below hb).mono hb.size) d1 d5 d6 (by omega))
  have hsl := synN_length (sN s) par
  have hs8 := synN_b8 (sN_b8 s) par
  obtain ⟨hgl, hg8⟩ := erN_full s.size er
  have HX : Hid (xiN (sN s) par er = (prodN (synN (sN s) par) (erN s.size er)).take par) := Lib.hid (by unfold xiN; rw [sN_length])
  obtain ⟨n, hn⟩ : ∃ n, er.length = n := ⟨_, rfl⟩
  rw [hn] at CE hgl hm d7 ⊢
  have hpl : (prodN (synN (sN s) par) (erN s.size er)).length = par + n := by
    rw [prodN_length (by intro e; rw [e] at hsl; simp at hsl; omega) (by intro e; rw [e] at hgl; cases hgl), hsl, hgl]
    omega
  rw [HX.out]
  generalize synN (sN s) par = Y at *
  generalize erN s.size er = G at *
  have HPL := Lib.hid hpl
  have hmI : ¬ (par : Int) < (n : Int) := by omega
  have hmD : decide (par < n) = false := by rw [decide_eq_false_iff_not]; omega
  clear h d5 d6 hn HX hpl
  go_enter Tryz.func72, Tryz.ntmps72
  go_wp2_with fail
  refine CS.out.mono ?_
  rintro e w1 ⟨hb1, A1, c1, rfl, ho1⟩
  have HB1 := Lib.hid hb1
  have HO1 := Lib.hid ho1
  clear hb1 ho1 CS
  go_wp2_with fail
  with_reducible refine (CE.out w1 HB1.out).mono ?_
  rintro e w2 ⟨hb2, A2, c2, rfl, ho2⟩
  have HB2 := Lib.hid (HB1.out.trans (hb2.mono HB1.out.size))
  have HS1 := Lib.hid ((SlAt.of_own' (own_all HO1.out hb2) (Nat.le_refl _)))
  have HS2 := Lib.hid (SlAt.of_own' ho2 (Nat.le_refl _))
  have CT := Lib.hid (fun w' (hb : Below w2.heap.size w2 w') => times_any A1 A2 c1 c2 Y G w' ((HS1.out.below hb).mono hb.size) ((HS2.out.below hb).mono hb.size) hs8 hg8 (by omega) (by omega))
  rw [hsl, hgl] at CT
  unfold ProdRes at CT
  rw [HPL.out] at CT
  have hpn : (par : Int) ≤ ((par + n : Nat) : Int) := by omega
  have h0p : (0 : Int) ≤ (par : Int) := by omega
  clear hb2 ho2 CE HO1
  go_upto_region 9 with fail
  go_cut [6, 7, 8] from 36 to 41 (fun x y z wx => ∃ Ax cx, x = .slice A2 (n + 1) c2 ∧ y = .slice Ax par cx ∧ z = .int .i64 0 ∧ Below w2.heap.size w2 wx ∧ SlAt wx wx.heap.size Ax (natV ((prodN Y G).take par)))
  case first =>
    refine wp_region_held_drew (S := (fun w' => Below w2.heap.size w2 w')) (by kernel_rfl) ((Below.refl _ _).drew) (fun hHeld => ?_)
    refine wpAnyH_take (i := 0) (oi := ?o701) (v := ?v701) ?hi701 (by kernel_rfl) (by kernel_rfl) (by kernel_rfl) ?hq701 ?hy701 (by assumption) ?hr701
    case hi701 => (simp only [List.getElem?_toArray, List.getElem?_cons_zero]; rfl)
    case hy701 => ((refine .inl ⟨by rfl, ?_⟩); intro w hS; go_simp; (try with_reducible rfl))
    case hq701 => exact fun _ _ _ h => h
    (simp only [Act.put, List.setIfInBounds_toArray, List.set_cons_zero, List.set_cons_succ])
    refine wpAnyH_take (i := 1) (oi := ?o702) (v := ?v702) ?hi702 (by kernel_rfl) (by kernel_rfl) (by kernel_rfl) ?hq702 ?hy702 (by assumption) ?hr702
    case hi702 => (simp only [List.getElem?_toArray, List.getElem?_cons_succ, List.getElem?_cons_zero]; rfl)
    case hy702 => ((refine .inl ⟨by rfl, ?_⟩); intro w hS; go_simp; (try with_reducible rfl))
    case hq702 => exact fun _ _ _ h => h
    (simp only [Act.put, List.setIfInBounds_toArray, List.set_cons_zero, List.set_cons_succ])
    refine wpAnyH_take (i := 2) (oi := ?o703) (v := ?v703) ?hi703 (by kernel_rfl) (by kernel_rfl) (by kernel_rfl) ?hq703 ?hy703 (by assumption) ?hr703
    case hi703 => (simp only [List.getElem?_toArray, List.getElem?_cons_succ, List.getElem?_cons_zero]; rfl)
    case hy703 => ((refine .inl ⟨by rfl, ?_⟩); intro w hS; go_simp; (try with_reducible rfl))
    case hq703 => exact fun _ _ _ h => h
    (simp only [Act.put, List.setIfInBounds_toArray, List.set_cons_zero, List.set_cons_succ])
    refine wpAnyH_take (i := 4) (oi := ?o704) (v := ?v704) ?hi704 (by kernel_rfl) (by kernel_rfl) (by kernel_rfl) ?hq704 ?hy704 (by assumption) ?hr704
    case hi704 => (simp only [List.getElem?_toArray, List.getElem?_cons_succ, List.getElem?_cons_zero]; rfl)
    case hy704 => ((refine .inl ⟨by rfl, ?_⟩); intro w hS; go_simp; (try with_reducible rfl))
    case hq704 => exact fun _ _ _ h => h
    (simp only [Act.put, List.setIfInBounds_toArray, List.set_cons_zero, List.set_cons_succ])
    refine wpAnyH_ready (rs := [3]) (by kernel_rfl) (by simp) ?_
    refine AllReadyH.cons rfl (fun K hK => ?_) AllReadyH.nil
    go_simp
    go_wp2_with (((with_reducible refine (CT.out _ hHeld).mono ?_); rintro e w3 ⟨hb3, A3, c3, rfl, ho3⟩))
    refine hK.out _ _ (hHeld.trans (hb3.mono hHeld.size)) (fun hHeld1 => ?_)
    clear hK K
    (try simp only [Act.put, List.setIfInBounds_toArray, List.set_cons_zero, List.set_cons_succ])
    have HO3 := Lib.hid ho3
    obtain ⟨g3, k3, hv3, _, _, hk3⟩ := own_form HO3.out (by omega)
    injection hv3 with hA3 _ hc3
    subst hA3 hc3
    have hpc : (par : Int) ≤ (c3 : Int) := by omega
    clear hb3 ho3
    clear hHeld; have hHeld := hHeld1; clear hHeld1
    refine wpAnyH_take (i := 5) (oi := ?o705) (v := ?v705) ?hi705 (by kernel_rfl) (by kernel_rfl) (by kernel_rfl) ?hq705 ?hy705 (by assumption) ?hr705
    case hi705 => (simp only [List.getElem?_toArray, List.getElem?_cons_succ, List.getElem?_cons_zero]; rfl)
    case hy705 => ((refine .inl ⟨by rfl, ?_⟩); intro w hS; go_simp; (try with_reducible rfl))
    case hq705 => exact fun _ _ _ h => h
    (simp only [Act.put, List.setIfInBounds_toArray, List.set_cons_zero, List.set_cons_succ])
    refine wpAnyH_take (i := 6) (oi := ?o706) (v := ?v706) ?hi706 (by kernel_rfl) (by kernel_rfl) (by kernel_rfl) ?hq706 ?hy706 (by assumption) ?hr706
    case hi706 => (simp only [List.getElem?_toArray, List.getElem?_cons_succ, List.getElem?_cons_zero]; rfl)
    case hy706 => ((refine .inl ⟨by rfl, ?_⟩); intro w hS; go_simp; (try with_reducible rfl))
    case hq706 => exact fun _ _ _ h => h
    (simp only [Act.put, List.setIfInBounds_toArray, List.set_cons_zero, List.set_cons_succ])
    refine wpAnyH_take (i := 7) (oi := ?o707) (v := ?v707) ?hi707 (by kernel_rfl) (by kernel_rfl) (by kernel_rfl) ?hq707 ?hy707 (by assumption) ?hr707
    case hi707 => (simp only [List.getElem?_toArray, List.getElem?_cons_succ, List.getElem?_cons_zero]; rfl)
    case hy707 => ((refine .inl ⟨by rfl, ?_⟩); intro w hS; go_simp; (try with_reducible rfl))
    case hq707 => exact fun _ _ _ h => h
    (simp only [Act.put, List.setIfInBounds_toArray, List.set_cons_zero, List.set_cons_succ])
    refine wpAnyH_take (i := 8) (oi := ?o708) (v := ?v708) ?hi708 (by kernel_rfl) (by kernel_rfl) (by kernel_rfl) ?hq708 ?hy708 (by assumption) ?hr708
    case hi708 => (simp only [List.getElem?_toArray, List.getElem?_cons_succ, List.getElem?_cons_zero]; rfl)
    case hy708 => ((refine .inl ⟨by rfl, ?_⟩); intro w hS; go_simp; (try with_reducible rfl))
    case hq708 => exact fun _ _ _ h => h
    (simp only [Act.put, List.setIfInBounds_toArray, List.set_cons_zero, List.set_cons_succ])
    refine wpAnyH_done (by kernel_rfl) ?_ _
    go_wp2_with fail
    go_meet
    exact ⟨_, _, rfl, rfl, rfl, hHeld, by rw [natV_take]; exact slat_take (SlAt.of_own' HO3.out (Nat.le_refl _)) _⟩
  case rest =>
    obtain ⟨Ax, cx, rfl, rfl, rfl, hbx, hsx⟩ := hcut
    have HBX := Lib.hid hbx
    have HSX := Lib.hid hsx
    clear hbx hsx
    go_wp2_with fail
    go_ret3
    exact ⟨HB2.out.trans (HBX.out.mono HB2.out.size), A2, c2, Ax, cx, rfl, (HS2.out.below HBX.out).mono HBX.out.size, HSX.out⟩
theorem degK_range (p : List Nat) : ∀ k, -1 ≤ degK p k ∧ degK p k < k
  | 0 => by show (-1 : Int) ≤ -1 ∧ (-1 : Int) < ((0 : Nat) : Int); omega
  | k + 1 => by
    have := degK_range p k
    rw [degK]
    split <;> omega
theorem slat_new (W : World) (n g : Nat) (h : W.heap.size = g) : SlAt (W.alloc (.cells #[.int .u8 (n : Int)] 5)) (W.alloc (.cells #[.int .u8 (n : Int)] 5)).heap.size (some ⟨g, 0, none⟩) (natV [n]) := by
  subst h
  exact SlAt.of_own' (World.ownsRow_lit (base := 0) (size := 1) (e := 5) W #[.int .u8 (n : Int)] 1 (Nat.zero_le _) (by decide) rfl) (Nat.le_refl _)
/-! ### Decode -/
def decN (s : ByteArray) (par : Nat) (er : List Nat) : ByteArray × Nat × Nat :=
  if par < er.length then (⟨#[]⟩, 0, 11) else
  if er = [] ∧ zerB (xiN (sN s) par er) = true then (s, 0, 0) else
  if validN (repN (sN s) (prodN [1] (erN s.size er)) (xiN (sN s) par er)) par = true ∧ 2 * (chK (sN s) (repN (sN s) (prodN [1] (erN s.size er)) (xiN (sN s) par er)) er s.size).2 + er.length ≤ par then
    (natS (repN (sN s) (prodN [1] (erN s.size er)) (xiN (sN s) par er)), (chK (sN s) (repN (sN s) (prodN [1] (erN s.size er)) (xiN (sN s) par er)) er s.size).1, 0)
  else (⟨#[]⟩, 0, 11)
def decV (r : ByteArray × Nat × Nat) : Value := .tuple #[.string r.1, .int .i64 (r.2.1 : Int), .int .i64 (r.2.2 : Int)]
set_option maxRecDepth 100000 in
set_option maxHeartbeats 4000000 in
theorem decode_any (s : ByteArray) (par : Nat) (A : Option Addr) (c : Nat) (er : List Nat) (w : World) (h : SlAt w w.heap.size A (posV er)) (hd : DecOk s par er)
    (hdeg : er.length ≤ par → ¬ (er = [] ∧ zerB (xiN (sN s) par er) = true) → 2 * degN (xiN (sN s) par er) < (par : Int) + er.length) :
    Calls Tryz.prog 34 #[.string s, .int .i64 (par : Int), .slice A er.length c] w fun e w' => e = .returned (decV (decN s par er)) ∧ Below w.heap.size w w' := by
  have hp0 : 0 < par := hd.p1
  have hd' := hd
  by_cases hm : par < er.length
  · have HE : Hid (decN s par er = (⟨#[]⟩, 0, 11)) := Lib.hid (by unfold decN; rw [if_pos hm])
    have CS := Lib.hid (start_many s par A c er w h hd hm)
    rw [HE.out]
    generalize er.length = n at *
    clear h hd hd' hdeg hm
    go_enter Tryz.func34, Tryz.ntmps34
    go_wp2_with fail
    with_reducible refine CS.out.mono ?_
    rintro e w1 ⟨rfl, hb1⟩
    have HB1 := Lib.hid hb1
    clear hb1
    go_wp2_with fail
    go_ret3
    exact ⟨rfl, HB1.out⟩
  · have CS := Lib.hid (start_ok s par A c er w h hd (by omega))
    have hdg := hdeg (by omega)
    have hx8 := xiN_b8 (sN_b8 s) par er
    have hxl := xiN_length (d := sN s) er hp0
    have CZ := Lib.hid (fun w' Ax cx (hs : SlAt w' w'.heap.size Ax (natV (xiN (sN s) par er))) => zero_any Ax cx (xiN (sN s) par er) w' hs (by rw [hxl]; have := hd.p2; omega))
    rw [hxl] at CZ
    by_cases hz : er = [] ∧ zerB (xiN (sN s) par er) = true
    · have HE : Hid (decN s par er = (s, 0, 0)) := Lib.hid (by unfold decN; rw [if_neg hm, if_pos hz])
      rw [HE.out]
      obtain ⟨rfl, hz2⟩ := hz
      rw [hz2] at CZ
      rw [show ([] : List Nat).length = 0 from rfl] at CS ⊢
      generalize xiN (sN s) par [] = XI at *
      clear h hd hd' hdeg hdg hm hz2
      go_enter Tryz.func34, Tryz.ntmps34
      go_wp2_with fail
      with_reducible refine CS.out.mono ?_
      rintro e w1 ⟨hb1, Ag, cg, Ax, cx, rfl, hsg, hsx⟩
      have C := Lib.hid (CZ.out w1 Ax cx hsx)
      have HB1 := Lib.hid hb1
      clear hb1 hsg hsx CS CZ
      go_wp2_with fail
      with_reducible refine C.out.mono ?_
      rintro e w2 ⟨rfl, rfl⟩
      go_wp2_with fail
      go_ret3
      exact ⟨rfl, HB1.out⟩
    · have hdg2 := hdg hz
      have hdr := degK_range (xiN (sN s) par er) (xiN (sN s) par er).length
      have hdr2 : -1 ≤ degN (xiN (sN s) par er) ∧ degN (xiN (sN s) par er) < (par : Int) := by unfold degN; rw [hxl] at hdr; rw [hxl]; exact hdr
      clear hdr
      have CD := Lib.hid (fun w' Ax cx (hs : SlAt w' w'.heap.size Ax (natV (xiN (sN s) par er))) => degree_any Ax cx (xiN (sN s) par er) w' hs (by rw [hxl]; have := hd.p2; omega))
      rw [hxl] at CD
      obtain ⟨hgl, hg8⟩ := erN_full s.size er
      have h18 : B8 [1] := fun m hm => by rw [List.mem_singleton.1 hm]; decide
      have hql : (prodN [1] (erN s.size er)).length = er.length + 1 := by
        rw [prodN_length (by simp) (by intro e; rw [e] at hgl; cases hgl), hgl]
        simp
      have hq8 : B8 (prodN [1] (erN s.size er)) := prodN_b8 h18
      have CT := Lib.hid (fun w' Av cv Ag cg (hv : SlAt w' w'.heap.size Av (natV [1])) (hg : SlAt w' w'.heap.size Ag (natV (erN s.size er))) => times_any Av Ag cv cg [1] (erN s.size er) w' hv hg h18 hg8 (by simp) (by rw [hgl]; have := hd.few; omega))
      rw [hgl, show ([1] : List Nat).length = 1 from rfl] at CT
      unfold ProdRes at CT
      rw [hql] at CT
      have CR := Lib.hid (fun w' Aq cq Ax cx (hq : SlAt w' w'.heap.size Aq (natV (prodN [1] (erN s.size er)))) (hx : SlAt w' w'.heap.size Ax (natV (xiN (sN s) par er))) => repair_any s Aq Ax cq cx (prodN [1] (erN s.size er)) (xiN (sN s) par er) w' hq hx hq8 hx8 (by rw [hql]; omega) (by rw [hql]; have := hd.few; omega) (by rw [hxl]; have := hd.p2; omega) (by have := hd.le; omega))
      rw [hql, hxl] at CR
      have HE : Hid (decN s par er = if validN (repN (sN s) (prodN [1] (erN s.size er)) (xiN (sN s) par er)) par = true ∧ 2 * (chK (sN s) (repN (sN s) (prodN [1] (erN s.size er)) (xiN (sN s) par er)) er s.size).2 + er.length ≤ par then (natS (repN (sN s) (prodN [1] (erN s.size er)) (xiN (sN s) par er)), (chK (sN s) (repN (sN s) (prodN [1] (erN s.size er)) (xiN (sN s) par er)) er s.size).1, 0) else (⟨#[]⟩, 0, 11)) := Lib.hid (by unfold decN; rw [if_neg hm, if_neg hz])
      have hz2 : er ≠ [] ∨ zerB (xiN (sN s) par er) = false := by
        by_cases he : er = []
        · right
          cases hq : zerB (xiN (sN s) par er) with
          | false => rfl
          | true => exact absurd ⟨he, hq⟩ hz
        · exact .inl he
      generalize zerB (xiN (sN s) par er) = zb at *
      generalize hXI : xiN (sN s) par er = XI at *
      generalize hQ : prodN [1] (erN s.size er) = Q at *
      obtain ⟨O, hO⟩ : ∃ O, repN (sN s) Q XI = O := ⟨_, rfl⟩
      have hO8 : B8 O := by rw [← hO]; exact repK_b8 (sN_b8 s) _
      have hOl : O.length = s.size := by rw [← hO]; unfold repN; rw [repK_length, sN_length]
      have hnO := natS_size O
      rw [hOl] at hnO
      have hsO := sN_natS hO8
      rw [hO] at CR HE
      have CC := Lib.hid (fun w' (hb : Below w.heap.size w w') => changes_any s (natS O) A c er w' ((h.below hb).mono hb.size) (by have := hd.le; omega) hnO (by have := hd.few; omega))
      rw [hsO] at CC
      have CV := Lib.hid (fun w' => rsvalid_any (natS O) par w' (by rw [hnO]; exact hd.le) hd.p1 hd.p2 (by rw [hnO]; exact hd.ps))
      rw [hsO] at CV
      obtain ⟨hc1, hc2⟩ := chK_le (sN s) O er s.size
      generalize chK (sN s) O er s.size = CH at *
      obtain ⟨ch1, ch2⟩ := CH
      dsimp only at hc1 hc2 HE
      generalize validN O par = vb at *
      generalize degN XI = dg at *
      have hsl := hd.le
      have hpl := hd.p2
      have hfew := hd.few
      have hz3 : ((er.length : Int) == 0) = false ∨ (((er.length : Int) == 0) = true ∧ zb = false) := by
        by_cases he : er = []
        · subst he
          rcases hz2 with h1 | h1
          · exact absurd rfl h1
          · exact .inr ⟨rfl, h1⟩
        · left
          rw [beq_eq_false_iff_ne]
          have := List.length_pos_iff.2 he
          omega
      generalize er.length = n at *
      have hmk := fun w' => run_mk8 Tryz.underlying130 (par + 1) (by omega) w'
      have e1 : ((par + 1 : Nat) : Int) = (par : Int) + 1 := by omega
      rw [e1] at hmk
      have hdgI : ¬ (par : Int) + (n : Int) ≤ 2 * dg := by omega
      obtain ⟨hdr3, hdr4⟩ := hdr2
      have hdgW : wrap64 (2 * dg) = 2 * dg := IntWalk.wrap64_in _ (by omega)
      have HE1 := Lib.hid (show 0 < par from hp0)
      clear h hd hd' hdeg hdg hdg2 hm hz hz2 hXI hQ hO hO8 hOl hsO h18 hq8 hx8 hg8 hgl hxl hql
      go_enter Tryz.func34, Tryz.ntmps34
      go_wp2_with fail
      with_reducible refine CS.out.mono ?_
      rintro e w1 ⟨hb1, Ag, cg, Ax, cx, rfl, hsg, hsx⟩
      have HSG := Lib.hid hsg
      have HSX := Lib.hid hsx
      have C := Lib.hid (CZ.out w1 Ax cx hsx)
      have HB1 := Lib.hid hb1
      clear hb1 hsg hsx CS CZ
      go_upto_region 4 with fail
      go_cut [38] from 32 to 38 (fun b wx => b = .bool false ∧ w1 = wx)
      case first =>
        rcases hz3 with hB | ⟨hB, rfl⟩
        · go_wp2_with fail
          go_meet
          exact ⟨rfl, rfl⟩
        · go_wp2_with fail
          with_reducible refine C.out.mono ?_
          rintro e w2 ⟨rfl, rfl⟩
          go_wp2_with fail
          go_meet
          exact ⟨rfl, rfl⟩
      case rest =>
        obtain ⟨rfl, rfl⟩ := hcut
        have hmade := own_le (base' := w.heap.size) (made_bytes w1 (par + 1) (by unfold maxLen; omega)) HB1.out.size
        have qm := own_nat hmade (k := par) (x := 0) (by simp)
        have fm := hmade.frozenAt par
        have hbm := (Below.refl w1.heap.size w1).alloc (Nat.le_refl _) (.cells (madeCells #[.int .u8 0] (par + 1)) 5)
        have h0p : (0 : Int) ≤ (par : Int) := by omega
        have hpp : (par : Int) < (par : Int) + 1 := by omega
        clear C hz3
        go_upto_region 8 with fail
        go_cut [15] from 47 to 48 (fun v wx => ∃ Av cv, v = .slice Av 1 cv ∧ SlAt wx wx.heap.size Av (natV [1]) ∧ Below w1.heap.size w1 wx)
        case first =>
          go_wp2_with fail
          go_meet
          exact ⟨_, 1, rfl, slat_new _ 1 _ (by simp), (((Below.refl _ _).alloc (Nat.le_refl _) _).alloc (by simp) _).alloc (by simp; omega) _⟩
        case rest =>
          obtain ⟨Av, cv, rfl, hsv, hbx⟩ := hcut
          have HSV := Lib.hid hsv
          have HBX := Lib.hid (HB1.out.trans (hbx.mono HB1.out.size))
          have HSXX := Lib.hid ((HSX.out.below hbx).mono hbx.size)
          have HSGX := Lib.hid ((HSG.out.below hbx).mono hbx.size)
          have C1 := Lib.hid (CD.out wc Ax cx HSXX.out)
          have C2 := Lib.hid (CT.out wc Av cv Ag cg HSV.out HSGX.out)
          clear hsv hbx hmade qm fm hbm CD CT HSX HSG
          go_wp2_with fail
          refine wp_loop_rounds 1 ?_
          rw [rounds_succ]
          go_wp2_with fail
          with_reducible refine C1.out.mono ?_
          rintro e w4 ⟨rfl, rfl⟩
          go_wp2_with fail
          with_reducible refine C2.out.mono ?_
          rintro e w5 ⟨hb5, A5, c5, rfl, ho5⟩
          have HB5 := Lib.hid (HBX.out.trans (hb5.mono HBX.out.size))
          have C3 := Lib.hid (CR.out w5 A5 c5 Ax cx (SlAt.of_own' ho5 (Nat.le_refl _)) ((HSXX.out.below hb5).mono hb5.size))
          clear hb5 ho5 C1 C2 CR
          go_wp2_with fail
          with_reducible refine C3.out.mono ?_
          rintro e w6 ⟨rfl, hb6⟩
          have HB6 := Lib.hid (HB5.out.trans (hb6.mono HB5.out.size))
          have C4 := Lib.hid (CC.out w6 HB6.out)
          clear hb6 C3 CC
          go_wp2_with fail
          with_reducible refine C4.out.mono ?_
          rintro e w7 ⟨rfl, hb7⟩
          have HB7 := Lib.hid (HB6.out.trans (hb7.mono HB6.out.size))
          clear hb7 C4
          go_wp2_with fail
          with_reducible refine (CV.out w7).mono ?_
          rintro e w8 ⟨rfl, hb8⟩
          have HB8 := Lib.hid (HB7.out.trans (hb8.mono HB7.out.size))
          clear hb8 CV
          cases vb with
          | false =>
            have HF : Hid (decN s par er = (⟨#[]⟩, 0, 11)) := Lib.hid (by rw [HE.out, if_neg (by simp)])
            go_wp2_with fail
            go_ret3
            exact ⟨by rw [HF.out]; rfl, HB8.out⟩
          | true =>
            by_cases h2 : 2 * ch2 + n ≤ par
            · have HF : Hid (decN s par er = (natS O, ch1, 0)) := Lib.hid (by rw [HE.out, if_pos ⟨rfl, h2⟩])
              have h2I : ¬ (par : Int) < 2 * (ch2 : Int) + (n : Int) := by omega
              go_wp2_with fail
              go_ret3
              exact ⟨by rw [HF.out]; rfl, HB8.out⟩
            · have HF : Hid (decN s par er = (⟨#[]⟩, 0, 11)) := Lib.hid (by rw [HE.out, if_neg (by rintro ⟨_, h⟩; exact h2 h)])
              have h2I : (par : Int) < 2 * (ch2 : Int) + (n : Int) := by omega
              go_wp2_with fail
              go_ret3
              exact ⟨by rw [HF.out]; rfl, HB8.out⟩
end Go.Proofs.YtlnjphggfbiabaaGreat
