/-
  The medium laws: what scrambling and the cross-interleaved code do, plain.
-/
import Derived.Test.YtlnjphggfbiabaaGreatMEf
import Derived.Test.YtlnjphggfbiabaaGreatMFk
namespace Go.Proofs.YtlnjphggfbiabaaGreat
open Go.RowKit
set_option linter.unusedVariables false

theorem scrK_get {d key : List Nat} (hd : d.length = 2352) : ∀ i, i ≤ 2340 → ∀ j, (scrK d key i)[j]? = if 12 ≤ j ∧ j < 12 + i then some ((d[j]?.getD 0) ^^^ (key[j - 12]?.getD 0)) else d[j]?
  | 0, _, j => by rw [if_neg (by omega)]; rfl
  | i + 1, hi, j => by
    rw [scrK, List.getElem?_set, scrK_length, hd]
    by_cases h : 12 + i = j
    · subst h
      rw [if_pos rfl, if_pos (by omega), if_pos (by omega), scrK_get hd i (by omega), if_neg (by omega), Nat.add_sub_cancel_left]
    · rw [if_neg h, scrK_get hd i (by omega) j]
      by_cases h2 : 12 ≤ j ∧ j < 12 + i
      · rw [if_pos h2, if_pos (by omega)]
      · rw [if_neg h2, if_neg (by omega)]
theorem scrN_get {d : List Nat} (hd : d.length = 2352) (j : Nat) : (scrN d)[j]? = if 12 ≤ j ∧ j < 2352 then some ((d[j]?.getD 0) ^^^ ((seqN 2340)[j - 12]?.getD 0)) else d[j]? := scrK_get hd 2340 (Nat.le_refl _) j
theorem scrN_length (d : List Nat) : (scrN d).length = d.length := scrK_length d _ _
theorem scrN_b8 {d : List Nat} (h : B8 d) : B8 (scrN d) := scrK_b8 h (seqN_len 2340).2 _
theorem scrN_inv {d : List Nat} (hd : d.length = 2352) : scrN (scrN d) = d := by
  apply List.ext_getElem?
  intro j
  rw [scrN_get (by rw [scrN_length, hd]), scrN_get hd]
  by_cases h : 12 ≤ j ∧ j < 2352
  · rw [if_pos h, if_pos h, List.getElem?_eq_getElem (by omega)]
    simp only [Option.getD_some]
    rw [Nat.xor_assoc, Nat.xor_self, Nat.xor_zero]
  · rw [if_neg h, if_neg h]
theorem scrN_same {d d' : List Nat} (hd : d.length = 2352) (hd' : d'.length = 2352) {j : Nat} (h : d[j]? = d'[j]?) : (scrN d)[j]? = (scrN d')[j]? := by
  rw [scrN_get hd, scrN_get hd', h]
theorem seqL_more (n : Nat) (pre post : List RgG) (j : Nat) (hj : j < pre.length / 8) : (seqL n (pre ++ post))[j]? = (seqL n pre)[j]? := by
  generalize hr : post.reverse = r
  induction r generalizing post with
  | nil => rw [List.reverse_eq_nil_iff.1 hr, List.append_nil]
  | cons x r ih =>
    obtain rfl : post = r.reverse ++ [x] := by rw [← List.reverse_reverse post, hr, List.reverse_cons]
    rw [← List.append_assoc, seqL_snoc, List.getElem?_set, if_neg, ih r.reverse (List.reverse_reverse r)]
    rw [List.length_append]
    have : pre.length / 8 ≤ (pre.length + r.reverse.length) / 8 := Nat.div_le_div_right (Nat.le_add_right _ _)
    omega
theorem regs_split (N : Nat) (h : 32 ≤ N) : regs N = regs 32 ++ (regs N).drop 32 := by
  have h2 : (regs N).take 32 = regs 32 := by
    unfold regs
    rw [← List.map_take, List.take_range, Nat.min_eq_left h]
  rw [← h2, List.take_append_drop]
theorem scrS_one (o : List ByteArray) : scrS o [(50, 16)] = blankK o 50 16 := by
  unfold scrS
  rw [List.foldl_cons, List.foldl_nil]
  congr 1
theorem seqN_head : (seqN 2340).take 4 = [1, 128, 0, 96] := by
  have e : regs (8 * 2340) = regs 32 ++ (regs (8 * 2340)).drop 32 := regs_split (8 * 2340) (by omega)
  have h4 : ∀ j, j < 4 → (seqN 2340)[j]? = (seqL 2340 (regs 32))[j]? := fun j hj => by
    unfold seqN
    rw [e]
    exact seqL_more 2340 _ _ j (by rw [regs_length]; omega)
  have hk : (seqL 2340 (regs 32)).take 4 = [1, 128, 0, 96] := by kernel_rfl
  rw [← hk]
  apply List.ext_getElem?
  intro j
  rw [List.getElem?_take, List.getElem?_take]
  split
  · exact h4 j ‹_›
  · rfl
theorem scrN_head {d : List Nat} (hd : d.length = 2352) (h : (d.drop 12).take 4 = [0, 2, 0, 1]) : ((scrN d).drop 12).take 4 = [1, 130, 0, 97] := by
  have hg : ∀ j, j < 4 → d[12 + j]? = [0, 2, 0, 1][j]? := fun j hj => by rw [← h, List.getElem?_take, if_pos hj, List.getElem?_drop]
  have hs : ∀ j, j < 4 → (seqN 2340)[j]? = [1, 128, 0, 96][j]? := fun j hj => by rw [← seqN_head, List.getElem?_take, if_pos hj]
  apply List.ext_getElem?
  intro j
  rw [List.getElem?_take]
  by_cases hj : j < 4
  · rw [if_pos hj, List.getElem?_drop, scrN_get hd, if_pos (by omega), hg j hj, Nat.add_sub_cancel_left, hs j hj]
    rcases j with _ | _ | _ | _ | j
    · rfl
    · rfl
    · rfl
    · rfl
    · omega
  · rw [if_neg hj]
    exact (List.getElem?_eq_none (by simpa using hj)).symm
theorem frOk_scr {D : List Nat} (h8 : B8 D) (n : Nat) (l : List (Int × Int)) : FrOk D n (scrS (encF D n) l) := by
  have hl : (encF D n).length = n + 108 := by unfold encF; rw [List.length_map, List.length_range]
  refine ⟨by rw [scrS_length, hl], fun g hg hgo => ?_⟩
  rcases scrS_get l (encF D n) g with h | h
  · rw [h]; exact encF_get D n g hg
  · unfold goneB at hgo
    rw [h] at hgo
    exact absurd hgo (by decide)
theorem gone_50 {D : List Nat} (h8 : B8 D) (g : Nat) : goneB (scrS (encF D 98) [(50, 16)]) g = true → 50 ≤ g ∧ g < 66 ∨ 206 ≤ g := by
  intro h
  by_cases hg : 206 ≤ g
  · exact .inr hg
  refine .inl ?_
  have hl : (encF D 98).length = 206 := by unfold encF; rw [List.length_map, List.length_range]
  unfold goneB at h
  rw [scrS_one, blankK_get, hl] at h
  by_cases hb : 50 ≤ g ∧ g < 50 + 16 ∧ g < 206
  · omega
  · rw [if_neg hb, encF_get D 98 g (by omega)] at h
    simp only [Option.getD_some, frame_size h8] at h
    exact absurd h (by decide)
theorem er_50 {D : List Nat} (h8 : B8 D) (f : Nat) (hf : f < 98) : (erK (scrS (encF D 98) [(50, 16)]) f 28).length ≤ 4 := by
  have h1 : (erK (scrS (encF D 98) [(50, 16)]) f 28).length ≤ ((List.range 28).filter fun j => decide (50 ≤ f + 4 * j) && decide (f + 4 * j < 66)).length := by
    unfold erK
    rw [← List.countP_eq_length_filter, ← List.countP_eq_length_filter]
    refine List.countP_mono_left fun j hj hg => ?_
    rw [List.mem_range] at hj
    rcases gone_50 h8 _ hg with h | h
    · simp [h.1, h.2]
    · omega
  have h2 : (List.range 98).all (fun f => decide (((List.range 28).filter fun j => decide (50 ≤ f + 4 * j) && decide (f + 4 * j < 66)).length ≤ 4)) = true := by kernel_rfl
  have h3 := List.all_eq_true.1 h2 f (List.mem_range.2 hf)
  exact Nat.le_trans h1 (of_decide_eq_true h3)
theorem outK_all {D : List Nat} {L : List ByteArray} {n : Nat} (hD : D.length = 24 * n) (h8 : B8 D) (h : lsK L n = []) : outK D L n = D := by
  apply List.ext_getElem?
  intro j
  by_cases hj : j < 24 * n
  · exact outK_get hD h8 n (Nat.le_refl _) j hj (by rw [h]; exact List.not_mem_nil)
  · rw [List.getElem?_eq_none (by rw [(outK_ok hD h8 n (Nat.le_refl _)).1]; omega), List.getElem?_eq_none (by omega)]
end Go.Proofs.YtlnjphggfbiabaaGreat
