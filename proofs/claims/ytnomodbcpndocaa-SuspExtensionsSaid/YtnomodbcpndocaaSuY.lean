/-
  Chapter 24: the link's numbers are read; groups that are joined are walked over (plain Lean).
-/
import Derived.Test.YtnomodbcpndocaaSuX
namespace Go.Proofs.Ytnomodbcpndocaa
open Go.RowKit
set_option linter.unusedVariables false

theorem valN_leB (n : Int) (z : Nat) (h0 : 0 ≤ n) : (valN (leB n z) : Int) = n % 256 ^ z := by
  obtain ⟨m, rfl⟩ := Int.eq_ofNat_of_zero_le h0
  induction z with
  | zero => simp [leB, valN, Int.emod_one]
  | succ z ih =>
    rw [leB_snoc, valN_snoc, leB_length, Int.natCast_add, ih]
    have e3 : ∀ k, ((256 : Int) ^ k) = ((256 ^ k : Nat) : Int) := fun k => by rw [Int.natCast_pow]; rfl
    rw [e3, e3, ← Int.natCast_emod, ← Int.natCast_emod, ← Int.natCast_add]
    congr 1
    unfold bt
    rw [Int.toNat_natCast, UInt8.toNat_ofNat', Nat.pow_succ]
    exact (Nat.mod_mul (x := m) (a := 256 ^ z) (b := 256)).symm
theorem valN_fits {n : Int} {z : Nat} (hf : fitsB n z = true) : (valN (leB n z) : Int) = n := by
  simp [fitsB] at hf
  rw [valN_leB n z hf.1, Int.emod_eq_of_lt hf.1 hf.2]

theorem le4 (n : Int) : leB n 4 = [bt n 0, bt n 1, bt n 2, bt n 3] := rfl
theorem be4 (n : Int) : beB n 4 = [bt n 3, bt n 2, bt n 1, bt n 0] := rfl
theorem both4 {n : Int} (h : fitsB n 4 = true) : (strBoth n 4).data.toList = [bt n 0, bt n 1, bt n 2, bt n 3, bt n 3, bt n 2, bt n 1, bt n 0] := by
  have he : errBoth n 4 = 0 := by rw [errBoth4, if_pos h]
  have hb : errB n 4 = 0 := by rw [errB_double (by decide)]; exact he
  unfold strBoth
  have e1 : strLe n 4 = ⟨(leB n 4).toArray⟩ := strLe_ok (s := 4) hb
  have e2 : strBe n 4 = ⟨(beB n 4).toArray⟩ := strBe_ok (s := 4) hb
  rw [if_pos he, e1, e2]
  simp [le4, be4]
theorem fits_small {n : Int} (h0 : 0 ≤ n) (h1 : n ≤ 4294967295) : fitsB n 4 = true := by rw [fits4, decide_eq_true h0, decide_eq_true h1]; rfl
theorem cont_parts {a o l : Int} (h : contB a o l = true) : fitsB a 4 = true ∧ fitsB o 4 = true ∧ fitsB l 4 = true ∧ areaB o l = true ∧ 0 ≤ a ∧ 0 ≤ o ∧ 1 ≤ l ∧ l ≤ 2048 - o := by
  unfold contB at h
  rw [Bool.and_eq_true] at h
  obtain ⟨h1, h2⟩ := h
  have h3 := h2
  unfold areaB at h3
  simp only [Bool.and_eq_true, decide_eq_true_eq] at h3
  have h4 := h1
  rw [fits4] at h4
  simp only [Bool.and_eq_true, decide_eq_true_eq] at h4
  exact ⟨h1, fits_small (by omega) (by omega), fits_small (by omega) (by omega), h2, h4.1, h3.1.1.1, h3.1.2, h3.2⟩
theorem contD_list {a o l : Int} (h : contB a o l = true) : (contD a o l).data.toList = [bt a 0, bt a 1, bt a 2, bt a 3, bt a 3, bt a 2, bt a 1, bt a 0, bt o 0, bt o 1, bt o 2, bt o 3, bt o 3, bt o 2, bt o 1, bt o 0, bt l 0, bt l 1, bt l 2, bt l 3, bt l 3, bt l 2, bt l 1, bt l 0] := by
  obtain ⟨h1, h2, h3, _⟩ := cont_parts h
  unfold contD
  simp only [ByteArray.data_append, Array.toList_append, both4 h1, both4 h2, both4 h3]
  rfl
theorem contD_size {a o l : Int} (h : contB a o l = true) : (contD a o l).size = 24 := by rw [size_data, contD_list h]; rfl
theorem plc_read {d : ByteArray} (h24 : d.size = 24) (i : Nat) (hi : i < 3) {n : Int} (hn : fitsB n 4 = true) (hp : partB d (8 * i) 4 = leB n 4) : plcV d i = n := by
  have hv : (nLe d ((8 * i : Nat) : Int) 4 : Int) = n := by
    unfold nLe
    rw [Int.toNat_natCast]
    show (valN (partB d (8 * i) 4) : Int) = n
    rw [hp]
    exact valN_fits (z := 4) hn
  have hl : n ≤ 4294967295 ∧ 0 ≤ n := by
    rw [fits4] at hn
    simp only [Bool.and_eq_true, decide_eq_true_eq] at hn
    exact ⟨hn.2, hn.1⟩
  unfold plcV
  rw [rV_in (by unfold sizeBad; omega) (by unfold insideB; rw [h24]; exact decide_eq_true (by omega))]
  unfold rdV
  rw [if_pos (by omega)]
  exact hv
theorem plc_cont {a o l : Int} (h : contB a o l = true) : plcV (contD a o l) 0 = a ∧ plcV (contD a o l) 1 = o ∧ plcV (contD a o l) 2 = l := by
  obtain ⟨h1, h2, h3, _⟩ := cont_parts h
  have hs := contD_size h
  refine ⟨plc_read hs 0 (by omega) h1 ?_, plc_read hs 1 (by omega) h2 ?_, plc_read hs 2 (by omega) h3 ?_⟩ <;>
    (unfold partB; rw [contD_list h, le4]; rfl)
theorem badA_cont {a o l : Int} (h : contB a o l = true) : badA (contD a o l) = false := by
  obtain ⟨_, p1, p2⟩ := plc_cont h
  obtain ⟨_, _, _, h4, _⟩ := cont_parts h
  unfold badA
  rw [contD_size h, p1, p2, h4]
  rfl
theorem contX_ok {a o l : Int} (h : contB a o l = true) : contX a o l = ⟨ceS, 1, contD a o l⟩ := by unfold contX; rw [if_pos h]
theorem contX_err {a o l : Int} (h : contB a o l = true) : errE (contX a o l) = 0 := by
  rw [contX_ok h]
  refine errE_zero.2 ⟨show sigB ceS = true by decide, show (0 : Int) ≤ 1 by decide, show (1 : Int) ≤ 255 by decide, ?_⟩
  show (contD a o l).size ≤ 251
  rw [contD_size h]
  omega

/-! ### Groups that are joined -/
section
variable {ll : List (List Ent)} {ps : List Pl}
theorem jErr_each : ∀ {n : Nat}, jErr ll ps n = 0 → ∀ k, k < n → jE ll ps k = 0
  | 0, _, k, h => by omega
  | n + 1, h, k, hk => by
    have h1 : (if jErr ll ps n = 0 then jE ll ps n else jErr ll ps n) = 0 := h
    by_cases h0 : jErr ll ps n = 0
    · rw [if_pos h0] at h1
      by_cases he : k = n
      · rw [he]; exact h1
      · exact jErr_each h0 k (by omega)
    · rw [if_neg h0] at h1
      exact absurd h1 h0
theorem jE_zero {k : Nat} (h : jE ll ps k = 0) : checkL (jG ll k) = 0 ∧ (k ≠ 0 → contB (jP ps (k - 1)).lba (jP ps (k - 1)).off (jL ll k) = true) := by
  unfold jE at h
  by_cases h0 : checkL (jG ll k) = 0
  · rw [if_pos h0] at h
    refine ⟨h0, fun hk => ?_⟩
    rw [if_neg hk] at h
    unfold contE at h
    by_cases hb : contB (jP ps (k - 1)).lba (jP ps (k - 1)).off (jL ll k) = true
    · exact hb
    · rw [if_neg hb] at h; cases h
  · rw [if_neg h0] at h; exact absurd h h0
theorem joinE_zero (h : joinE ll ps = 0) : ll.length ≠ 0 ∧ ps.length + 1 = ll.length ∧ jErr ll ps ll.length = 0 := by
  unfold joinE at h
  split at h
  · cases h
  · rename_i hc
    exact ⟨fun e => hc (.inl e), Decidable.byContradiction fun e => hc (.inr e), h⟩
/-- The string of group k. -/
def jT (ll : List (List Ent)) (ps : List Pl) (k : Nat) : ByteArray := if k + 1 < ll.length then encS (jG ll k) ++ jS ll ps (k + 1) else encS (jG ll k)
theorem joinR_get (h : joinE ll ps = 0) {k : Nat} (hk : k < ll.length) : (joinR ll ps)[k]? = some (jT ll ps k) := by
  unfold joinR
  rw [if_pos h, jnK_get hk]
  rfl
/-- Its entries. -/
def jEnts (ll : List (List Ent)) (ps : List Pl) (k : Nat) : List Ent := jG ll k ++ (if k + 1 < ll.length then [jX ll ps (k + 1)] else [])
theorem jX_ok (h : jErr ll ps ll.length = 0) {k : Nat} (hk : k + 1 < ll.length) : jX ll ps (k + 1) = ⟨ceS, 1, contD (jP ps k).lba (jP ps k).off (jL ll (k + 1))⟩ ∧ contB (jP ps k).lba (jP ps k).off (jL ll (k + 1)) = true := by
  have h1 := (jE_zero (jErr_each h (k + 1) hk)).2 (by omega)
  exact ⟨contX_ok h1, h1⟩
theorem jT_list (h : jErr ll ps ll.length = 0) {k : Nat} (hk : k < ll.length) : (jT ll ps k).data.toList = encB (jEnts ll ps k) := by
  have h1 := (jE_zero (jErr_each h k hk)).1
  unfold jT jEnts
  by_cases hl : k + 1 < ll.length
  · rw [if_pos hl, if_pos hl, ByteArray.data_append, Array.toList_append, encS_ok h1, encB_append]
    congr 1
    unfold jS
    obtain ⟨hx, hb⟩ := jX_ok h hl
    refine encS_ok (check_mk (by simp) fun x hm => ?_)
    rw [List.mem_singleton.1 hm]
    exact contX_err hb
  · rw [if_neg hl, if_neg hl, encS_ok h1, List.append_nil]
theorem jEnts_err (h : jErr ll ps ll.length = 0) {k : Nat} (hk : k < ll.length) : ∀ x ∈ jEnts ll ps k, errE x = 0 := by
  intro x hx
  unfold jEnts at hx
  rcases List.mem_append.1 hx with hx | hx
  · exact (check_ok (jE_zero (jErr_each h k hk)).1).2 x hx
  · split at hx
    · rename_i hl
      rw [List.mem_singleton.1 hx]
      exact contX_err (jX_ok h hl).2
    · cases hx
theorem jT_size (h : jErr ll ps ll.length = 0) {k : Nat} (hk : k < ll.length) : ((jT ll ps k).size : Int) = jL ll k := by
  rw [size_data, jT_list h hk, encB_length (jEnts_err h hk)]
  unfold jL
  rw [lenL_get ll k (jG ll k) (by unfold jG; rw [List.getElem?_eq_getElem hk]; rfl), Option.getD_some]
  unfold jEnts
  rw [sizeL_append]
  by_cases hl : k + 1 < ll.length
  · rw [if_pos hl, if_pos hl, (jX_ok h hl).1, sizeL_cons, sizeL_nil]
    unfold sizeE
    dsimp only
    rw [contD_size (jX_ok h hl).2]
    omega
  · rw [if_neg hl, if_neg hl, sizeL_nil]
    omega
theorem lastI_no {l : List Ent} (h : ∀ x ∈ l, x.sg ≠ ceS) : ∀ k, k ≤ l.length → lastI l k = none
  | 0, _ => rfl
  | k + 1, hk => by
    unfold lastI
    rw [if_neg, lastI_no h k (by omega)]
    rw [List.getElem?_eq_getElem (by omega), Option.getD_some]
    exact h _ (List.getElem_mem _)
theorem nonCE_no {l : List Ent} (h : ∀ x ∈ l, x.sg ≠ ceS) : nonCE l = l := by
  unfold nonCE
  refine List.filter_eq_self.2 fun x hx => ?_
  unfold ceB
  rw [decide_eq_false (h x hx)]
  rfl
theorem jT_dec (h : jErr ll ps ll.length = 0) {k : Nat} (hk : k < ll.length) (hno : ∀ x ∈ jG ll k, x.sg ≠ ceS ∧ x.sg ≠ stS) : decE (jT ll ps k) = 0 ∧ decL (jT ll ps k) = jEnts ll ps k := by
  refine dec_full (R := []) (by rw [jT_list h hk, List.append_nil]) (jEnts_err h hk) (fun x hx => ?_) (stop_short (by simp))
  unfold jEnts at hx
  rcases List.mem_append.1 hx with hx | hx
  · exact (hno x hx).2
  · split at hx
    · rename_i hl
      rw [List.mem_singleton.1 hx, (jX_ok h hl).1]
      show ceS ≠ stS
      decide
    · cases hx
theorem jEnts_mid (h : jErr ll ps ll.length = 0) {k : Nat} (hk : k + 1 < ll.length) (hno : ∀ x ∈ jG ll k, x.sg ≠ ceS ∧ x.sg ≠ stS) :
    lastI (jEnts ll ps k) (jEnts ll ps k).length = some (jG ll k).length ∧ nonCE (jEnts ll ps k) = jG ll k ∧ lnkD (jEnts ll ps k) (jG ll k).length = contD (jP ps k).lba (jP ps k).off (jL ll (k + 1)) := by
  have he : jEnts ll ps k = jG ll k ++ [⟨ceS, 1, contD (jP ps k).lba (jP ps k).off (jL ll (k + 1))⟩] := by unfold jEnts; rw [if_pos hk, (jX_ok h hk).1]
  have hg : (jEnts ll ps k)[(jG ll k).length]? = some ⟨ceS, 1, contD (jP ps k).lba (jP ps k).off (jL ll (k + 1))⟩ := by rw [he, List.getElem?_append_right (Nat.le_refl _), Nat.sub_self]; rfl
  refine ⟨?_, ?_, ?_⟩
  · rw [show (jEnts ll ps k).length = (jG ll k).length + 1 by rw [he]; simp]
    unfold lastI
    rw [hg, Option.getD_some, if_pos rfl]
  · rw [he]
    unfold nonCE
    rw [List.filter_append]
    have h1 := nonCE_no (l := jG ll k) fun x hx => (hno x hx).1
    unfold nonCE at h1
    rw [h1]
    show jG ll k ++ _ = _
    rw [show List.filter (fun x => !ceB x) [(⟨ceS, 1, contD (jP ps k).lba (jP ps k).off (jL ll (k + 1))⟩ : Ent)] = [] by
      rw [List.filter_cons_of_neg]
      · rfl
      · unfold ceB; rw [decide_eq_true rfl]; decide]
    exact List.append_nil _
  · unfold lnkD
    rw [hg]
    rfl
/-- The area of group i lies where its link says. -/
def AreaAt (img : List ByteArray) (ll : List (List Ent)) (ps : List Pl) (i : Nat) : Prop :=
  ∃ blk, img[(jP ps (i - 1)).lba.toNat]? = some blk ∧ blk.size = 2048 ∧ blk.extract (jP ps (i - 1)).off.toNat ((jP ps (i - 1)).off.toNat + (jL ll i).toNat) = jT ll ps i
theorem area_go {img : List ByteArray} (h : jErr ll ps ll.length = 0) {k : Nat} (hk : k + 1 < ll.length) (ha : AreaAt img ll ps (k + 1)) :
    badA (contD (jP ps k).lba (jP ps k).off (jL ll (k + 1))) = false ∧ plcV (contD (jP ps k).lba (jP ps k).off (jL ll (k + 1))) 0 = (jP ps k).lba ∧ hasBlk img (jP ps k).lba = true ∧ nextS img (contD (jP ps k).lba (jP ps k).off (jL ll (k + 1))) = jT ll ps (k + 1) := by
  have hb := (jX_ok h hk).2
  obtain ⟨p0, p1, p2⟩ := plc_cont hb
  obtain ⟨_, _, _, _, c0, _⟩ := cont_parts hb
  obtain ⟨blk, h1, h2, h3⟩ := ha
  rw [Nat.add_sub_cancel] at h1 h3
  have hlt := (List.getElem?_eq_some_iff.1 h1).1
  refine ⟨badA_cont hb, p0, ?_, ?_⟩
  · unfold hasBlk
    rw [h1, Option.getD_some, decide_eq_true c0, decide_eq_true h2, decide_eq_true (show (jP ps k).lba < (img.length : Int) by omega)]
    rfl
  · unfold nextS
    rw [p0, p1, p2, h1, Option.getD_some, h3]
/-- Walking over all areas. -/
theorem walk_all {img : List ByteArray} (h : jErr ll ps ll.length = 0) (hno : ∀ k, k < ll.length → ∀ x ∈ jG ll k, x.sg ≠ ceS ∧ x.sg ≠ stS) (ha : ∀ i, 1 ≤ i → i < ll.length → AreaAt img ll ps i) :
    ∀ (r k f : Nat) (a : Int), k + r + 1 = ll.length → r < f → ∃ a', wlk img f (jT ll ps k) a = (ll.drop k, a', 0)
  | r, k, 0, a, _, hf => by omega
  | 0, k, f + 1, a, hk, _ => by
    obtain ⟨h1, h2⟩ := jT_dec h (show k < ll.length by omega) (hno k (by omega))
    have he : jEnts ll ps k = jG ll k := by unfold jEnts; rw [if_neg (by omega), List.append_nil]
    have hn := fun x hx => (hno k (by omega) x hx).1
    refine ⟨a, ?_⟩
    rw [wlk_end h1 (by rw [h2, he]; exact lastI_no hn _ (Nat.le_refl _)), h2, he, nonCE_no hn]
    congr 1
    rw [List.drop_eq_getElem_cons (show k < ll.length by omega), List.drop_of_length_le (by omega)]
    unfold jG
    rw [List.getElem?_eq_getElem (by omega)]
    rfl
  | r + 1, k, f + 1, a, hk, hf => by
    obtain ⟨h1, h2⟩ := jT_dec h (show k < ll.length by omega) (hno k (by omega))
    obtain ⟨m1, m2, m3⟩ := jEnts_mid h (show k + 1 < ll.length by omega) (hno k (by omega))
    obtain ⟨g1, g2, g3, g4⟩ := area_go (img := img) h (show k + 1 < ll.length by omega) (ha (k + 1) (by omega) (by omega))
    obtain ⟨a', hw⟩ := walk_all h hno ha r (k + 1) f (jP ps k).lba (by omega) (by omega)
    refine ⟨a', ?_⟩
    rw [wlk_go h1 (by rw [h2]; exact m1) (by rw [h2, m3]; exact g1) (by omega) (by rw [h2, m3, g2]; exact g3), h2, m2, m3, g2, g4, hw]
    congr 1
    rw [List.drop_eq_getElem_cons (show k < ll.length by omega)]
    congr 1
    unfold jG
    rw [List.getElem?_eq_getElem (by omega)]
    rfl
/-- Walking until an area is lost. -/
theorem walk_lost {img : List ByteArray} (h : jErr ll ps ll.length = 0) (hno : ∀ k, k < ll.length → ∀ x ∈ jG ll k, x.sg ≠ ceS ∧ x.sg ≠ stS) {t : Nat} (ht : 1 ≤ t) (ht2 : t < ll.length) (ha : ∀ i, 1 ≤ i → i < t → AreaAt img ll ps i) (hl : hasBlk img (jP ps (t - 1)).lba = false) :
    ∀ (r k f : Nat) (a : Int), k + r + 1 = t → r + 1 < f → (wlk img f (jT ll ps k) a).2 = ((jP ps (t - 1)).lba, 9) ∧ (wlk img f (jT ll ps k) a).1 <+: ll.drop k
  | r, k, 0, a, _, hf => by omega
  | 0, k, f + 1, a, hk, hf => by
    obtain ⟨h1, h2⟩ := jT_dec h (show k < ll.length by omega) (hno k (by omega))
    obtain ⟨m1, m2, m3⟩ := jEnts_mid h (show k + 1 < ll.length by omega) (hno k (by omega))
    have hb := (jX_ok h (show k + 1 < ll.length by omega)).2
    obtain ⟨p0, _, _⟩ := plc_cont hb
    obtain rfl : k = t - 1 := by omega
    rw [wlk_lost h1 (by rw [h2]; exact m1) (by rw [h2, m3]; exact badA_cont hb) (by omega) (by rw [h2, m3, p0]; exact hl), h2, m2, m3, p0]
    refine ⟨rfl, ?_⟩
    rw [List.drop_eq_getElem_cons (show t - 1 < ll.length by omega)]
    unfold jG
    rw [List.getElem?_eq_getElem (by omega)]
    exact ⟨_, rfl⟩
  | r + 1, k, f + 1, a, hk, hf => by
    obtain ⟨h1, h2⟩ := jT_dec h (show k < ll.length by omega) (hno k (by omega))
    obtain ⟨m1, m2, m3⟩ := jEnts_mid h (show k + 1 < ll.length by omega) (hno k (by omega))
    obtain ⟨g1, g2, g3, g4⟩ := area_go (img := img) h (show k + 1 < ll.length by omega) (ha (k + 1) (by omega) (by omega))
    obtain ⟨w1, w2⟩ := walk_lost h hno ht ht2 ha hl r (k + 1) f (jP ps k).lba (by omega) (by omega)
    rw [wlk_go h1 (by rw [h2]; exact m1) (by rw [h2, m3]; exact g1) (by omega) (by rw [h2, m3, g2]; exact g3), h2, m2, m3, g2, g4]
    refine ⟨w1, ?_⟩
    rw [List.drop_eq_getElem_cons (show k < ll.length by omega)]
    have : jG ll k = ll[k] := by unfold jG; rw [List.getElem?_eq_getElem (by omega)]; rfl
    rw [this]
    exact List.cons_prefix_cons.2 ⟨rfl, w2⟩
end
end Go.Proofs.Ytnomodbcpndocaa
