/-
  The plain laws behind SectorCanonical and SectorDetects: a sector that is parsed is the one that Build makes of its contents; a burst is seen by Check.
-/
import Derived.Test.YtdjpnabkmanboaaPlain
namespace Go.Proofs.Ytdjpnabkmanboaa
open Go.RowKit
set_option linter.unusedVariables false

theorem byte_seg {s : ByteArray} {i : Nat} (h : i < s.size) : seg s.data.toList i (i + 1) = [UInt8.ofNat (bI s i).toNat] := by
  obtain ⟨b, h1, h2, h3⟩ := bI_some h
  rw [seg_one _ h1, ← h3]

theorem canon_facts {s : ByteArray} {m : Int} (hs : s.size = 2352) (hk : kindR s = (m, 0)) : modeOk m = true ∧ bI s 15 = lByte m ∧ (m ≠ 0 → (bI s 18 / 32 % 2 = 1 ↔ m = 2)) := by
  have h0 : (kindR s).2 = 0 := by rw [hk]
  obtain ⟨_, hm⟩ := kindR_ok h0
  rw [hk] at hm
  refine ⟨hm, ?_⟩
  rw [kind_b s hs] at hk
  unfold lByte
  by_cases c1 : bI s 15 = 1
  · rw [if_pos c1] at hk
    injection hk with e1 e2
    subst e1
    exact ⟨by rw [c1]; rfl, fun h => absurd rfl h⟩
  · rw [if_neg c1] at hk
    by_cases c2 : bI s 15 = 2
    · rw [if_neg (by simpa using c2)] at hk
      by_cases c3 : bI s 18 / 32 % 2 = 1
      · rw [if_pos c3] at hk
        injection hk with e1 e2
        subst e1
        exact ⟨by rw [c2]; rfl, fun _ => ⟨fun _ => rfl, fun _ => c3⟩⟩
      · rw [if_neg c3] at hk
        injection hk with e1 e2
        subst e1
        exact ⟨by rw [c2]; rfl, fun _ => ⟨fun h => absurd h c3, fun h => by omega⟩⟩
    · rw [if_pos (by simpa using c2)] at hk
      injection hk with e1 e2
      omega

theorem canon_head {s : ByteArray} {m : Int} (hs : s.size = 2352) (hk : kindR s = (m, 0)) (hd : decB s = true) (hf : frontB s = true) (x : Sec) (hx : x.lba = lbaS s) (hxm : x.mode = m) :
    headL x = s.data.toList.take 16 ∧ -150 ≤ x.lba ∧ x.lba ≤ 449849 := by
  obtain ⟨hm, h15, _⟩ := canon_facts hs hk
  obtain ⟨o0, o1, o2, hM⟩ := of_decide_eq_true hd
  obtain ⟨a0, a1, b0, b1, c0, c1⟩ := msfOk_iff.1 hM
  have hx' : x.lba + 150 = (60 * unV (bI s 12) + unV (bI s 13)) * 75 + unV (bI s 14) := by rw [hx]; unfold lbaS; omega
  have e12 := bcd_un (bI_bd s 12).1 o0
  have e13 := bcd_un (bI_bd s 13).1 o1
  have e14 := bcd_un (bI_bd s 14).1 o2
  have d1 : (x.lba + 150) / 75 / 60 = unV (bI s 12) := by rw [hx']; omega
  have d2 : (x.lba + 150) / 75 % 60 = unV (bI s 13) := by rw [hx']; omega
  have d3 : (x.lba + 150) % 75 = unV (bI s 14) := by rw [hx']; omega
  refine ⟨?_, by omega, by omega⟩
  have hl := size_list s
  have f : seg s.data.toList 0 12 = syncL := by
    rw [seg_zero]
    exact eq_of_beq hf
  unfold headL msfBs bcdB
  rw [d1, d2, d3, e12.1, e13.1, e14.1, hxm, ← h15, ← f]
  have t : [UInt8.ofNat (bI s 12).toNat, UInt8.ofNat (bI s 13).toNat, UInt8.ofNat (bI s 14).toNat] = seg s.data.toList 12 15 := by
    rw [← seg_append s.data.toList (i := 12) (j := 13) (k := 15) (by omega) (by omega), ← seg_append s.data.toList (i := 13) (j := 14) (k := 15) (by omega) (by omega), byte_seg (s := s) (i := 12) (by omega), byte_seg (s := s) (i := 13) (by omega), byte_seg (s := s) (i := 14) (by omega)]
    rfl
  rw [t, ← byte_seg (s := s) (i := 15) (by omega), seg_append _ (by omega) (by omega), seg_append _ (by omega) (by omega), seg_zero]

theorem canon_pre {s : ByteArray} {E : Nat} {x : Sec} (hs : s.size = 2352) (c : Nat) (hE : E + 4 ≤ 2352) (hp : preL x = s.data.toList.take E) (hcov : (lCov x.mode).toNat = c) (hc : chkL s.data.toList E c = true) :
    codedL x = s.data.toList.take (E + 4) := by
  have h2 : codeL (s.data.toList.take E) c = (s.data.toList.take (E + 4)).drop E := eq_of_beq hc
  unfold codedL
  rw [hp, hcov, h2]
  have := seg_append s.data.toList (i := 0) (j := E) (k := E + 4) (by omega) (by omega)
  rw [seg_zero, seg_zero] at this
  exact this

/-- A sector that is parsed is, but for the parity, the one that Build makes of its contents. -/
theorem canon {s : ByteArray} {m : Int} (hs : s.size = 2352) (hk : kindR s = (m, 0)) (hg : goodB s m = true) (hc : chkB s = true) :
    validB (secOf s m) = true ∧ (buildL (secOf s m)).take (lTop m) = s.data.toList.take (lTop m) := by
  obtain ⟨hm, h15, h18⟩ := canon_facts hs hk
  unfold goodB at hg
  simp only [Bool.and_eq_true] at hg
  obtain ⟨hd, hf, hg⟩ := hg
  unfold chkB at hc
  rw [hk, if_pos rfl] at hc
  have hl := size_list s
  by_cases h0 : m = 0
  · subst h0
    rw [if_pos rfl] at hg
    obtain ⟨hh, r1, r2⟩ := canon_head hs hk hd hf (secOf s 0) rfl rfl
    have hX : secOf s 0 = ⟨lbaS s, 0, 0, 0, 0, 0, s.extract 16 2064⟩ := rfl
    have hp : preL (secOf s 0) = s.data.toList.take 2064 := by
      show headL (secOf s 0) ++ (s.extract 16 2064).data.toList = _
      rw [hh, sub_extract]
      have := seg_append s.data.toList (i := 0) (j := 16) (k := 2064) (by omega) (by omega)
      rw [seg_zero, seg_zero] at this
      exact this
    have hcd := canon_pre (x := secOf s 0) hs 0 (by omega) hp rfl hc
    refine ⟨?_, ?_⟩
    · unfold validB
      have hz : (s.extract 16 2064).size = 2048 := by simp; omega
      rw [Bool.and_eq_true, Bool.and_eq_true, Bool.and_eq_true]
      refine ⟨⟨⟨rfl, decide_eq_true ⟨r1, r2⟩⟩, decide_eq_true ?_⟩, rfl⟩
      show ((s.extract 16 2064).size : Int) = 2048
      rw [hz]
      rfl
    · unfold buildL
      rw [hcd]
      have h7 : (s.data.toList.take 2068).length = 2068 := by rw [List.length_take]; omega
      rw [h7]
      show (s.data.toList.take 2068 ++ List.replicate 284 0).take 2076 = _
      have hz : seg s.data.toList 2068 2076 = List.replicate 8 0 := eq_of_beq hg
      have := seg_append s.data.toList (i := 0) (j := 2068) (k := 2076) (by omega) (by omega)
      rw [seg_zero, seg_zero, hz] at this
      rw [show lTop 0 = 2076 from rfl, ← this, List.take_append, h7, List.take_of_length_le (by omega), List.take_replicate]
      rfl
  · rw [if_neg h0] at hg
    simp only [Bool.and_eq_true] at hg
    obtain ⟨ht, h31⟩ := hg
    have h31 := of_decide_eq_true h31
    obtain ⟨hh, r1, r2⟩ := canon_head hs hk hd hf (secOf s m) (by unfold secOf; rw [if_neg h0]) (by unfold secOf; rw [if_neg h0])
    have hX : secOf s m = ⟨lbaS s, m, bI s 16, bI s 17, bI s 18, bI s 19, s.extract 24 (24 + lCap m).toNat⟩ := if_neg h0
    have hsub : subBs (secOf s m) = seg s.data.toList 16 20 := by
      rw [hX]
      unfold subBs
      rw [← seg_append s.data.toList (i := 16) (j := 17) (k := 20) (by omega) (by omega), ← seg_append s.data.toList (i := 17) (j := 18) (k := 20) (by omega) (by omega), ← seg_append s.data.toList (i := 18) (j := 19) (k := 20) (by omega) (by omega),
        byte_seg (s := s) (i := 16) (by omega), byte_seg (s := s) (i := 17) (by omega), byte_seg (s := s) (i := 18) (by omega), byte_seg (s := s) (i := 19) (by omega)]
      rfl
    have htw : seg s.data.toList 16 20 = seg s.data.toList 20 24 := eq_of_beq ht
    have hm12 : m = 1 ∨ m = 2 := by
      rcases modeOk_iff.1 hm with e | e | e
      · exact absurd e h0
      · exact .inl e
      · exact .inr e
    obtain ⟨E, hE1, hE2, hE3⟩ : ∃ E : Nat, lData m + lCap m = (E : Int) ∧ (24 + lCap m).toNat = E ∧ ((m = 1 ∧ E = 2072) ∨ (m = 2 ∧ E = 2348)) := by
      rcases hm12 with e | e
      · subst e; exact ⟨2072, rfl, rfl, .inl ⟨rfl, rfl⟩⟩
      · subst e; exact ⟨2348, rfl, rfl, .inr ⟨rfl, rfl⟩⟩
    have hp : preL (secOf s m) = s.data.toList.take E := by
      have : preL (secOf s m) = headL (secOf s m) ++ (subBs (secOf s m) ++ subBs (secOf s m)) ++ (secOf s m).data.data.toList := if_neg (by rw [hX]; exact h0)
      rw [this, hh, hsub]
      conv => lhs; arg 1; arg 2; arg 2; rw [htw]
      rw [seg_append _ (by omega) (by omega)]
      have e1 := seg_append s.data.toList (i := 0) (j := 16) (k := 24) (by omega) (by omega)
      rw [seg_zero, seg_zero] at e1
      rw [e1, hX]
      show _ ++ (s.extract 24 (24 + lCap m).toNat).data.toList = _
      rw [sub_extract, hE2]
      have e2 := seg_append s.data.toList (i := 0) (j := 24) (k := E) (by omega) (by omega)
      rw [seg_zero, seg_zero] at e2
      exact e2
    have hcov : (lCov (secOf s m).mode).toNat = 16 := by
      rw [hX]
      show (lCov m).toNat = 16
      unfold lCov
      rw [if_neg h0]
      rfl
    rw [hE1] at hc
    have hcd := canon_pre (x := secOf s m) hs 16 (by omega) hp hcov (by
      have : (lCov m).toNat = 16 := by unfold lCov; rw [if_neg h0]; rfl
      rw [this] at hc
      exact hc)
    refine ⟨?_, ?_⟩
    · unfold validB
      have hz : ((s.extract 24 (24 + lCap m).toNat).size : Int) = lCap m := by
        have hcap : lCap m = 2048 ∨ lCap m = 2324 := by unfold lCap; split <;> omega
        simp
        omega
      rw [hX, Bool.and_eq_true, Bool.and_eq_true, Bool.and_eq_true]
      rw [hX] at r1 r2
      refine ⟨⟨⟨hm, decide_eq_true ⟨r1, r2⟩⟩, decide_eq_true hz⟩, ?_⟩
      unfold subOk
      rw [if_neg h0]
      have q16 := bI_bd s 16
      have q17 := bI_bd s 17
      have q18 := bI_bd s 18
      have q19 := bI_bd s 19
      simp only [Bool.and_eq_true, btw_iff]
      exact ⟨⟨⟨⟨q16, q17.1, h31⟩, q18⟩, q19⟩, decide_eq_true (h18 h0)⟩
    · unfold buildL
      rw [hcd]
      rcases hE3 with ⟨rfl, rfl⟩ | ⟨rfl, rfl⟩
      · have h7 : (s.data.toList.take 2076).length = 2076 := by rw [List.length_take]; omega
        show (s.data.toList.take 2076 ++ _).take 2076 = _
        rw [List.take_append_of_le_length (by omega), List.take_of_length_le (by omega)]
        rfl
      · have h7 : (s.data.toList.take 2352).length = 2352 := by rw [List.length_take]; omega
        show (s.data.toList.take 2352 ++ _).take 2352 = _
        rw [List.take_append_of_le_length (by omega), List.take_of_length_le (by omega)]
        rfl

theorem edcBs_inj {a b : Nat} (ha : a < 4294967296) (hb : b < 4294967296) (h : edcBs a = edcBs b) : a = b := by
  unfold edcBs at h
  injection h with h0 h
  injection h with h1 h
  injection h with h2 h
  injection h with h3 _
  have g0 := congrArg UInt8.toNat h0
  have g1 := congrArg UInt8.toNat h1
  have g2 := congrArg UInt8.toNat h2
  have g3 := congrArg UInt8.toNat h3
  simp at g0 g1 g2 g3
  omega
/-- A burst in the covered bytes of a built sector. -/
theorem burst_chk {x : Sec} (hv : validB x = true) (k cv : Nat) (hc : cv < 4294967296) (h0 : cv ≠ 0) (hk1 : (lCov x.mode).toNat ≤ k) (hk2 : k + 4 ≤ (lData x.mode + lCap x.mode).toNat) (hkd : kindR ⟨(burst (buildL x) k cv 4).toArray⟩ = (x.mode, 0)) :
    chkB ⟨(burst (buildL x) k cv 4).toArray⟩ = false := by
  obtain ⟨E, c, hE, hcov, a1, a2, a3, hp⟩ := build_nat hv
  have hb := chk_build hv
  unfold chkB at hb ⊢
  rw [kind_build hv, if_pos rfl, hE, hcov, list_str] at hb
  rw [hkd, if_pos rfl, hE, hcov, list_str]
  rw [hE] at hk2
  rw [hcov] at hk1
  simp only [Int.toNat_natCast] at hb hk1 hk2 ⊢
  have hlen := build_len hv
  generalize buildL x = l at *
  unfold chkL at hb ⊢
  have hb := eq_of_beq hb
  obtain ⟨p, s, b0, b1, b2, b3, hpk, rfl⟩ := split4 l k (by omega)
  subst hpk
  rw [burst_four]
  have f2 : ∀ q : List UInt8, q.length = 4 → ((p ++ q ++ s).take (E + 4)).drop E = (s.take (E + 4 - (p.length + 4))).drop (E - (p.length + 4)) := by
    intro q hq
    have hl : (p ++ q).length = p.length + 4 := by rw [List.length_append, hq]
    rw [List.take_append, hl, List.take_of_length_le (by rw [hl]; omega), List.drop_append, hl, List.drop_eq_nil_of_le (by rw [hl]; omega), List.nil_append]
  have t1 := (f2 [b0 ^^^ byteOf cv 0, b1 ^^^ byteOf cv 1, b2 ^^^ byteOf cv 2, b3 ^^^ byteOf cv 3] rfl).trans (f2 [b0, b1, b2, b3] rfl).symm
  rw [t1, ← hb]
  rw [beq_eq_false_iff_ne]
  intro he
  unfold codeL at he
  have he := edcBs_inj (edcL_lt _ (by omega)) (edcL_lt _ (by omega)) he
  have f : ∀ q : List UInt8, q.length = 4 → ((p ++ q ++ s).take E).drop c = p.drop c ++ q ++ s.take (E - (p.length + 4)) := by
    intro q hq
    rw [List.take_append, List.take_of_length_le (by rw [List.length_append]; omega), List.length_append, hq, List.append_assoc, List.drop_append, show c - p.length = 0 by omega, List.drop_zero, List.append_assoc]
  rw [f _ rfl, f _ rfl] at he
  exact edc_burst _ _ b0 b1 b2 b3 cv hc h0 he
theorem parse_not {s : ByteArray} {m : Int} (hk : kindR s = (m, 0)) (hc : chkB s = false) : parseV s = noSec 9 ∨ parseV s = noSec 10 := by
  unfold parseV
  rw [hk, if_neg (by simp), hc]
  by_cases h : goodB s m = true
  · rw [if_pos h, if_neg (by simp)]; exact .inl rfl
  · rw [if_neg h]; exact .inr rfl
end Go.Proofs.Ytdjpnabkmanboaa
