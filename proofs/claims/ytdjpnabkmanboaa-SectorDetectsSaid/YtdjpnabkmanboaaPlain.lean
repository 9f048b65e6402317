/-
  The plain laws behind SectorReturns, SectorCanonical and SectorDetects: what Build and Parse make of each other.
-/
import Derived.Test.YtdjpnabkmanboaaParse
import Derived.Test.YtdjpnabkmanboaaAwake
import Derived.Test.YtdjpnabkmanboaaBurstE
namespace Go.Proofs.Ytdjpnabkmanboaa
open Go.RowKit
set_option linter.unusedVariables false

/-- How many bytes of a sector are no parity. -/
def lTop (m : Int) : Nat := if m = 2 then 2352 else 2076
def seg (l : List UInt8) (i j : Nat) : List UInt8 := (l.take j).drop i
theorem seg_append (l : List UInt8) {i j k : Nat} (h1 : i ≤ j) (h2 : j ≤ k) : seg l i j ++ seg l j k = seg l i k := by
  unfold seg
  have : (l.take k).take j = l.take j := by rw [List.take_take, Nat.min_eq_left h2]
  rw [← this]
  have h3 : ((l.take k).take j).drop i = ((l.take k).drop i).take (j - i) := by rw [List.take_drop, show i + (j - i) = j by omega]
  have h4 : (l.take k).drop j = ((l.take k).drop i).drop (j - i) := by rw [List.drop_drop, show i + (j - i) = j by omega]
  rw [h3, h4, List.take_append_drop]
theorem seg_zero (l : List UInt8) (k : Nat) : seg l 0 k = l.take k := by unfold seg; rw [List.drop_zero]
theorem seg_take (l : List UInt8) {i j T : Nat} (h : j ≤ T) : seg (l.take T) i j = seg l i j := by
  unfold seg
  rw [List.take_take, Nat.min_eq_left h]
theorem seg_len (l : List UInt8) {i j : Nat} (h : j ≤ l.length) : (seg l i j).length = j - i := by
  unfold seg
  rw [List.length_drop, List.length_take, Nat.min_eq_left h]
theorem seg_one (l : List UInt8) {i : Nat} {b : UInt8} (h : l[i]? = some b) : seg l i (i + 1) = [b] := by
  obtain ⟨hlt, rfl⟩ := List.getElem?_eq_some_iff.1 h
  unfold seg
  rw [List.take_succ_eq_append_getElem hlt, List.drop_left' (by rw [List.length_take]; omega)]
theorem seg_at (l : List UInt8) {i j T : Nat} (hij : j < i) (hT : i ≤ T) (l' : List UInt8) (h : l.take T = l'.take T) : l[j]? = l'[j]? := by
  have h1 : (l.take T)[j]? = l[j]? := List.getElem?_take_of_lt (by omega)
  have h2 : (l'.take T)[j]? = l'[j]? := List.getElem?_take_of_lt (by omega)
  rw [← h1, ← h2, h]

theorem size_list (s : ByteArray) : s.data.toList.length = s.size := by simp
theorem ba_ext {a b : ByteArray} (h : a.data.toList = b.data.toList) : a = b := by
  apply ByteArray.ext
  exact Array.toList_inj.1 h
theorem bI_at {s : ByteArray} {i : Nat} {b : UInt8} (h : s.data.toList[i]? = some b) : bI s i = (b.toNat : Int) := by
  unfold bI
  rw [h]
  rfl
theorem bI_some {s : ByteArray} {i : Nat} (h : i < s.size) : ∃ b : UInt8, s.data.toList[i]? = some b ∧ bI s i = (b.toNat : Int) ∧ b = UInt8.ofNat (bI s i).toNat := by
  have h1 := bytes_get s i h
  refine ⟨s[i], h1, bI_at h1, ?_⟩
  rw [bI_at h1]
  simp
theorem kind_b (s : ByteArray) (h : s.size = 2352) : kindR s = if bI s 15 = 1 then (0, 0) else if bI s 15 ≠ 2 then (0, 10) else if bI s 18 / 32 % 2 = 1 then (2, 0) else (1, 0) := by
  have h15 := bI_eq s 15 (by omega)
  have h18 := bI_eq s 18 (by omega)
  unfold kindR
  rw [dif_pos h]
  by_cases c1 : bI s 15 = 1
  · rw [if_pos c1, if_pos (show (s[15]'(by omega)).toNat = 1 by omega)]
  · rw [if_neg c1, if_neg (show ¬ (s[15]'(by omega)).toNat = 1 by omega)]
    by_cases c2 : bI s 15 = 2
    · rw [if_neg (show ¬ (s[15]'(by omega)).toNat ≠ 2 by omega), if_neg (show ¬ bI s 15 ≠ 2 by omega)]
      by_cases c3 : bI s 18 / 32 % 2 = 1
      · rw [if_pos c3, if_pos (show (s[18]'(by omega)).toNat / 32 % 2 = 1 by omega)]
      · rw [if_neg c3, if_neg (show ¬ (s[18]'(by omega)).toNat / 32 % 2 = 1 by omega)]
    · rw [if_pos (show (s[15]'(by omega)).toNat ≠ 2 by omega), if_pos (show bI s 15 ≠ 2 by omega)]
section
variable {s s' : ByteArray} {T : Nat}
theorem bI_same (h : s.data.toList.take T = s'.data.toList.take T) {i : Nat} (hi : i < T) : bI s i = bI s' i := by
  unfold bI
  rw [seg_at _ (Nat.lt_succ_self i) hi _ h]
theorem seg_same (h : s.data.toList.take T = s'.data.toList.take T) {i j : Nat} (hj : j ≤ T) : seg s.data.toList i j = seg s'.data.toList i j := by
  rw [← seg_take s.data.toList hj, ← seg_take s'.data.toList hj, h]
theorem ext_same (h : s.data.toList.take T = s'.data.toList.take T) {i j : Nat} (hj : j ≤ T) : s.extract i j = s'.extract i j := by
  apply ba_ext
  rw [sub_extract, sub_extract]
  exact seg_same h hj
theorem kind_same (hs : s.size = 2352) (hs' : s'.size = 2352) (h : s.data.toList.take T = s'.data.toList.take T) (hT : 2076 ≤ T) : kindR s = kindR s' := by
  rw [kind_b s hs, kind_b s' hs', bI_same h (i := 15) (by omega), bI_same h (i := 18) (by omega)]
theorem good_same (h : s.data.toList.take T = s'.data.toList.take T) (hT : 2076 ≤ T) (m : Int) : goodB s m = goodB s' m := by
  have f : frontB s = frontB s' := by
    unfold frontB
    have := seg_same h (i := 0) (j := 12) (by omega)
    rw [seg_zero, seg_zero] at this
    rw [this]
  have z : zeroB s = zeroB s' := by
    have := seg_same h (i := 2068) (j := 2076) (by omega)
    unfold zeroB
    unfold seg at this
    rw [this]
  have t : twinB s = twinB s' := by
    have t1 := seg_same h (i := 16) (j := 20) (by omega)
    have t2 := seg_same h (i := 20) (j := 24) (by omega)
    unfold twinB
    unfold seg at t1 t2
    rw [t1, t2]
  unfold goodB decB
  rw [f, z, t, bI_same h (i := 12) (by omega), bI_same h (i := 13) (by omega), bI_same h (i := 14) (by omega), bI_same h (i := 17) (by omega)]
theorem top_bd (m : Int) : 2076 ≤ lTop m ∧ lTop m ≤ 2352 := by unfold lTop; split <;> omega
theorem sec_eq {m : Int} (hm : modeOk m = true) (h : s.data.toList.take (lTop m) = s'.data.toList.take (lTop m)) : secOf s m = secOf s' m := by
  have hb := top_bd m
  have hl : lbaS s = lbaS s' := by unfold lbaS; rw [bI_same h (i := 12) (by omega), bI_same h (i := 13) (by omega), bI_same h (i := 14) (by omega)]
  unfold secOf
  rw [hl]
  by_cases h0 : m = 0
  · rw [if_pos h0, if_pos h0, ext_same h (j := 2064) (by omega)]
  · rw [if_neg h0, if_neg h0, bI_same h (i := 16) (by omega), bI_same h (i := 17) (by omega), bI_same h (i := 18) (by omega), bI_same h (i := 19) (by omega), ext_same h]
    rcases modeOk_iff.1 hm with e | e | e
    · exact absurd e h0
    · subst e; show (24 + 2048 : Int).toNat ≤ 2076; decide
    · subst e; show (24 + 2324 : Int).toNat ≤ 2352; decide
theorem chk_same {m : Int} (hm : modeOk m = true) (hk : kindR s = (m, 0)) (hk' : kindR s' = (m, 0)) (h : s.data.toList.take (lTop m) = s'.data.toList.take (lTop m)) : chkB s = chkB s' := by
  unfold chkB
  rw [hk, hk', if_pos rfl, if_pos rfl]
  unfold chkL
  have hE : (lData m + lCap m).toNat + 4 ≤ lTop m := by
    rcases modeOk_iff.1 hm with e | e | e
    · subst e; decide
    · subst e; decide
    · subst e; decide
  have h1 := seg_same h (i := 0) (j := (lData m + lCap m).toNat) (by omega)
  rw [seg_zero, seg_zero] at h1
  have h2 := seg_same h (i := (lData m + lCap m).toNat) hE
  unfold seg at h2
  show (codeL (s.data.toList.take (lData m + lCap m).toNat) (lCov m).toNat == (s.data.toList.take ((lData m + lCap m).toNat + 4)).drop (lData m + lCap m).toNat) = _
  rw [h1, h2]
end

theorem seg_mid (P M R : List UInt8) {i j : Nat} (hi : i = P.length) (hj : j = P.length + M.length) : seg (P ++ (M ++ R)) i j = M := by
  subst hi hj
  unfold seg
  rw [← List.append_assoc, List.take_append_of_le_length (by simp), List.take_of_length_le (by simp), List.drop_left]
theorem unOk_of {n : Int} (h0 : 0 ≤ n) (h1 : n < 100) : unOk (bcdV n) ∧ unV (bcdV n) = n := by
  obtain ⟨a, b, _⟩ := un_bcd (n := n) ⟨h0, by omega⟩
  refine ⟨?_, a⟩
  unfold unE at b
  by_cases h : unOk (bcdV n)
  · exact h
  · rw [if_neg h] at b; omega

/-- What Build makes is parsed as what it was made of. -/
theorem good_build {x : Sec} (hv : validB x = true) : goodB ⟨(buildL x).toArray⟩ x.mode = true ∧ secOf ⟨(buildL x).toArray⟩ x.mode = x := by
  obtain ⟨h0, h1, h2, h3⟩ := valid_parts hv
  have hl := list_str (buildL x)
  have hsub : subOk x = true := by
    have hv' := hv
    unfold validB at hv'
    simp only [Bool.and_eq_true] at hv'
    exact hv'.2
  obtain ⟨E, c, hE, hc, a1, a2, a3, hp⟩ := build_nat hv
  obtain ⟨r, hr⟩ := build_head x
  have hm := msfN_ok (n := x.lba + 150) (by omega) (by omega)
  obtain ⟨m0, m1, s0, s1, f0, f1⟩ := msfOk_iff.1 hm
  have hh : headL x = syncL ++ ([bcdB ((x.lba + 150) / 75 / 60), bcdB ((x.lba + 150) / 75 % 60), bcdB ((x.lba + 150) % 75)] ++ [UInt8.ofNat (lByte x.mode).toNat]) := rfl
  have g12 : (buildL x)[12]? = some (bcdB ((x.lba + 150) / 75 / 60)) := by rw [hr, hh]; rfl
  have g13 : (buildL x)[13]? = some (bcdB ((x.lba + 150) / 75 % 60)) := by rw [hr, hh]; rfl
  have g14 : (buildL x)[14]? = some (bcdB ((x.lba + 150) % 75)) := by rw [hr, hh]; rfl
  have b12 : bI ⟨(buildL x).toArray⟩ 12 = bcdV ((x.lba + 150) / 75 / 60) := by rw [bI_at (by rw [hl]; exact g12), bcdB_nat m0 m1]
  have b13 : bI ⟨(buildL x).toArray⟩ 13 = bcdV ((x.lba + 150) / 75 % 60) := by rw [bI_at (by rw [hl]; exact g13), bcdB_nat s0 (by omega)]
  have b14 : bI ⟨(buildL x).toArray⟩ 14 = bcdV ((x.lba + 150) % 75) := by rw [bI_at (by rw [hl]; exact g14), bcdB_nat f0 (by omega)]
  obtain ⟨o0, v0⟩ := unOk_of m0 m1
  obtain ⟨o1, v1⟩ := unOk_of s0 (by omega)
  obtain ⟨o2, v2⟩ := unOk_of f0 (by omega)
  have hd : decB ⟨(buildL x).toArray⟩ = true := by
    unfold decB
    rw [b12, b13, b14]
    exact decide_eq_true ⟨o0, o1, o2, by rw [v0, v1, v2]; exact hm⟩
  have hlba : lbaS ⟨(buildL x).toArray⟩ = x.lba := by
    unfold lbaS
    rw [b12, b13, b14, v0, v1, v2]
    omega
  have hf : frontB ⟨(buildL x).toArray⟩ = true := by
    unfold frontB
    rw [hl, hr, hh]
    exact beq_self_eq_true _
  by_cases hm0 : x.mode = 0
  · have hE' : E = 2064 := by
      have e1 : lData x.mode = 16 := if_pos hm0
      have e2 : lCap x.mode = 2048 := by unfold lCap; rw [if_neg (by omega)]
      omega
    have hcl : (codedL x).length = 2068 := by unfold codedL; rw [List.length_append, hp, codeL_len]; omega
    have hz : zeroB ⟨(buildL x).toArray⟩ = true := by
      unfold zeroB
      rw [hl]
      have e : buildL x = codedL x ++ (List.replicate 8 0 ++ List.replicate 276 0) := by
        unfold buildL
        rw [hcl]
        rfl
      have := seg_mid (codedL x) (List.replicate 8 0) (List.replicate 276 0) (i := 2068) (j := 2076) hcl.symm (by rw [hcl]; rfl)
      unfold seg at this
      rw [e, this]
      exact beq_self_eq_true _
    refine ⟨by unfold goodB; rw [hd, hf, if_pos hm0, hz]; rfl, ?_⟩
    unfold secOf
    rw [if_pos hm0, hlba]
    have hd : (⟨(buildL x).toArray⟩ : ByteArray).extract 16 2064 = x.data := by
      apply ba_ext
      rw [sub_extract, hl]
      have e : buildL x = headL x ++ (x.data.data.toList ++ (codeL (preL x) (lCov x.mode).toNat ++ List.replicate (2352 - (codedL x).length) 0)) := by
        have : preL x = headL x ++ x.data.data.toList := if_pos hm0
        unfold buildL
        rw [show codedL x = preL x ++ codeL (preL x) (lCov x.mode).toNat from rfl]
        conv => lhs; rw [List.append_assoc]
        conv => lhs; arg 1; rw [this]
        rw [List.append_assoc]
      have hdl := size_list x.data
      have hcap : lCap x.mode = 2048 := by unfold lCap; rw [if_neg (by omega)]
      have := seg_mid (headL x) x.data.data.toList (codeL (preL x) (lCov x.mode).toNat ++ List.replicate (2352 - (codedL x).length) 0) (i := 16) (j := 2064) rfl (by rw [show (headL x).length = 16 from rfl]; omega)
      unfold seg at this
      rw [e, this]
    rw [hd]
    unfold subOk at hsub
    rw [if_pos hm0] at hsub
    obtain ⟨lba, mode, fi, ch, su, co, data⟩ := x
    simp at hsub hm0 ⊢
    omega
  · have hsb := hsub
    unfold subOk at hsb
    rw [if_neg hm0] at hsb
    simp only [Bool.and_eq_true, btw_iff] at hsb
    obtain ⟨⟨⟨⟨⟨p0, p1⟩, c0, c1⟩, u0, u1⟩, w0, w1⟩, _⟩ := hsb
    have e : buildL x = headL x ++ (subBs x ++ (subBs x ++ (x.data.data.toList ++ (codeL (preL x) (lCov x.mode).toNat ++ List.replicate (2352 - (codedL x).length) 0)))) := by
      have : preL x = headL x ++ (subBs x ++ subBs x) ++ x.data.data.toList := if_neg hm0
      unfold buildL
      rw [show codedL x = preL x ++ codeL (preL x) (lCov x.mode).toNat from rfl]
      conv => lhs; rw [List.append_assoc]
      conv => lhs; arg 1; rw [this]
      simp only [List.append_assoc]
    have hhl : (headL x).length = 16 := rfl
    have hsl : (subBs x).length = 4 := rfl
    have ht : twinB ⟨(buildL x).toArray⟩ = true := by
      unfold twinB
      rw [hl]
      have t1 := seg_mid (headL x) (subBs x) (subBs x ++ (x.data.data.toList ++ (codeL (preL x) (lCov x.mode).toNat ++ List.replicate (2352 - (codedL x).length) 0))) (i := 16) (j := 20) rfl rfl
      have t2 := seg_mid (headL x ++ subBs x) (subBs x) (x.data.data.toList ++ (codeL (preL x) (lCov x.mode).toNat ++ List.replicate (2352 - (codedL x).length) 0)) (i := 20) (j := 24) rfl rfl
      rw [List.append_assoc] at t2
      unfold seg at t1 t2
      rw [e, t1, t2]
      exact beq_self_eq_true _
    have hb : ∀ (n : Int) (i : Nat), 0 ≤ n → n ≤ 255 → (buildL x)[i]? = some (UInt8.ofNat n.toNat) → bI ⟨(buildL x).toArray⟩ i = n := by
      intro n i hn0 hn1 hi
      rw [bI_at (by rw [hl]; exact hi)]
      simp
      omega
    have g16 := hb x.fi 16 p0 p1 (by rw [e]; rfl)
    have g17 := hb x.ch 17 c0 (by omega) (by rw [e]; rfl)
    have g18 := hb x.su 18 u0 u1 (by rw [e]; rfl)
    have g19 := hb x.co 19 w0 w1 (by rw [e]; rfl)
    refine ⟨by unfold goodB; rw [hd, hf, if_neg hm0, ht, g17]; simp; exact c1, ?_⟩
    unfold secOf
    rw [if_neg hm0, hlba, g16, g17, g18, g19]
    have hd : (⟨(buildL x).toArray⟩ : ByteArray).extract 24 (24 + lCap x.mode).toNat = x.data := by
      apply ba_ext
      rw [sub_extract, hl]
      have hdl := size_list x.data
      have := seg_mid (headL x ++ (subBs x ++ subBs x)) x.data.data.toList (codeL (preL x) (lCov x.mode).toNat ++ List.replicate (2352 - (codedL x).length) 0) (i := 24) (j := (24 + lCap x.mode).toNat) rfl (by rw [List.length_append, List.length_append, hhl, hsl]; omega)
      simp only [List.append_assoc] at this
      unfold seg at this
      rw [e, this]
    rw [hd]

/-- What agrees with a built sector but for the parity is parsed as its contents. -/
theorem back_build {x : Sec} (hv : validB x = true) {s : ByteArray} (hs : s.size = 2352) (h : s.data.toList.take (lTop x.mode) = (buildL x).take (lTop x.mode)) :
    kindR s = (x.mode, 0) ∧ parseV s = .tuple #[secV x, .int .i64 0] := by
  have hb := top_bd x.mode
  have hz : (⟨(buildL x).toArray⟩ : ByteArray).size = 2352 := by rw [str_size, build_len hv]
  have h' : s.data.toList.take (lTop x.mode) = (⟨(buildL x).toArray⟩ : ByteArray).data.toList.take (lTop x.mode) := by rw [list_str]; exact h
  obtain ⟨h0, _⟩ := valid_parts hv
  have hk : kindR s = (x.mode, 0) := (kind_same hs hz h' hb.1).trans (kind_build hv)
  obtain ⟨g, e⟩ := good_build hv
  have hg : goodB s x.mode = true := (good_same h' hb.1 _).trans g
  have hx : secOf s x.mode = x := (sec_eq h0 h').trans e
  have hc : chkB s = true := (chk_same h0 hk (kind_build hv) h').trans (chk_build hv)
  refine ⟨hk, ?_⟩
  unfold parseV
  rw [hk, if_neg (by simp), if_pos hg, if_pos hc, hx]
end Go.Proofs.Ytdjpnabkmanboaa
