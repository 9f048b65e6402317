/-
  Chapter 52: what the writes of a flush record, in plain mathematics.
-/
import Derived.Test.YtdmdfpdigoijoaaPwP1
namespace Go.Proofs.Ytdmdfpdigoijoaa
open Go.RowKit
set_option linter.unusedVariables false

theorem putL_end {img : Img} {a : Nat} {b : ByteArray} (h : img.length ≤ a) : putL img a b = img ++ List.replicate (a - img.length) blankS ++ [b] := by
  unfold putL
  rw [show a + 1 - img.length = (a - img.length) + 1 by omega, List.replicate_succ', ← List.append_assoc, List.set_append_right _ _ (by rw [List.length_append, List.length_replicate]; omega)]
  rw [List.length_append, List.length_replicate, show a - (img.length + (a - img.length)) = 0 by omega]
  rfl
def flSteps (ba : Int) (row : List ByteArray) (k : Nat) : List Stp := (List.range k).map fun i : Nat => ⟨ba + (i : Int), row[i]?.getD blankS, false⟩
theorem flSteps_length (ba : Int) (row : List ByteArray) (k : Nat) : (flSteps ba row k).length = k := by simp [flSteps]
theorem steps_flush {gb m : Nat} {ba : Int} {row : List ByteArray} (h0 : 0 ≤ ba) (hb : ba ≤ 1000000) (hm : m ≤ 100000) (hl : row.length = 8 * m) : ∀ k, k ≤ m → stepsL (flWs gb ba row m k) = flSteps ba row (8 * k)
  | 0, _ => rfl
  | k + 1, hk => by
    have ih := steps_flush (gb := gb) h0 hb hm hl k (by omega)
    rw [flWs_succ]
    unfold stepsL at ih ⊢
    rw [List.flatMap_append, ih]
    unfold flSteps
    rw [show 8 * (k + 1) = 8 * k + 8 by omega, List.range_add, List.map_append, List.map_map]
    congr 1
    rw [List.flatMap_cons, List.flatMap_nil, List.append_nil]
    unfold stepsW flW stepsB
    dsimp only
    rw [if_neg (by simp), List.append_nil]
    have hbl : ((row.drop (8 * k)).take 8).length = 8 := by rw [List.length_take, List.length_drop]; omega
    rw [hbl]
    apply List.map_congr_left
    intro i hi
    have hi := List.mem_range.1 hi
    show (⟨wrap64 (ba + 8 * (k : Int) + (i : Int)), ((row.drop (8 * k)).take 8)[i]?.getD blankS, false⟩ : Stp) = ⟨ba + ((8 * k + i : Nat) : Int), row[8 * k + i]?.getD blankS, false⟩
    have e1 : ba + 8 * (k : Int) + (i : Int) = ba + ((8 * k + i : Nat) : Int) := by omega
    have e2 : ((row.drop (8 * k)).take 8)[i]? = row[8 * k + i]? := by rw [List.getElem?_take, if_pos hi, List.getElem?_drop]
    rw [IntWalk.wrap64_in _ (by omega), e1, e2]
/-- The image after k steps of a flush that writes behind the image. -/
theorem cutK_flush {n : Nat} {ba : Int} {row : List ByteArray} {img : Img} {M : Nat} (h0 : 0 ≤ ba) (hi : (img.length : Int) ≤ ba) (hM : M ≤ row.length) : ∀ k, k ≤ M → k ≤ n → cutK n (flSteps ba row M) img k = if k = 0 then img else img ++ List.replicate (ba.toNat - img.length) blankS ++ row.take k
  | 0, _, _ => rfl
  | k + 1, hk, hn => by
    have ih := cutK_flush (n := n) h0 hi hM k (by omega) (by omega)
    have hs : (flSteps ba row M)[k]? = some ⟨ba + (k : Int), row[k]?.getD blankS, false⟩ := by unfold flSteps; rw [List.getElem?_map, List.getElem?_range (by omega)]; rfl
    rw [cutK_succ hs, ih]
    unfold apS
    dsimp only
    rw [if_neg (show ¬ (false = true) by simp), if_pos (show k < n by omega), if_neg (show ¬ k + 1 = 0 by omega)]
    have hr : row[k]? = some row[k] := List.getElem?_eq_getElem (by omega)
    rw [hr, Option.getD_some]
    have htk : row.take (k + 1) = row.take k ++ [row[k]] := by rw [List.take_add_one, hr]; rfl
    by_cases hk0 : k = 0
    · subst hk0
      rw [if_pos rfl, putL_end (by omega), htk, show (ba + ((0 : Nat) : Int)).toNat = ba.toNat by omega]
      simp
    · rw [if_neg hk0]
      have hlen : (img ++ List.replicate (ba.toNat - img.length) blankS ++ row.take k).length = (ba + (k : Int)).toNat := by
        rw [List.length_append, List.length_append, List.length_replicate, List.length_take]
        omega
      rw [putL_end (by omega), hlen, Nat.sub_self, List.replicate_zero, List.append_nil, htk, List.append_assoc]
theorem flAll_length (st ba : Int) (l : List Pend) (ctl : ByteArray) : (flAll st ba l ctl).length = (ctlL st ba l + 1 - ba).toNat := by unfold flAll; rw [flCtl_length, flRow_length]
/-- The row: the block of each pending address. -/
theorem flRow_at {ba : Int} {n : Nat} : ∀ (l : List Pend), (l.map (·.lba)).Pairwise (· < ·) → (∀ x ∈ l, ba ≤ x.lba ∧ x.lba < ba + (n : Int)) → ∀ (r : List ByteArray), r.length = n →
    (∀ x ∈ l, (l.foldl (fun r x => r.set (x.lba - ba).toNat x.blk) r)[(x.lba - ba).toNat]? = some x.blk) ∧ (∀ i : Nat, (∀ x ∈ l, x.lba ≠ ba + (i : Int)) → (l.foldl (fun r x => r.set (x.lba - ba).toNat x.blk) r)[i]? = r[i]?)
  | [], _, _, r, _ => ⟨fun x hx => (List.not_mem_nil hx).elim, fun _ _ => rfl⟩
  | y :: t, hp, hx, r, hr => by
    obtain ⟨h1, h2⟩ := List.pairwise_cons.1 hp
    obtain ⟨ih1, ih2⟩ := flRow_at t h2 (fun x hx' => hx x (List.mem_cons_of_mem _ hx')) (r.set (y.lba - ba).toNat y.blk) (by rw [List.length_set]; exact hr)
    have hy := hx y List.mem_cons_self
    refine ⟨fun x hx' => ?_, fun i hi => ?_⟩
    · rw [List.foldl_cons]
      rcases List.mem_cons.1 hx' with rfl | hx'
      · rw [ih2 _ (fun z hz => by
          have : x.lba < z.lba := h1 z.lba (List.mem_map_of_mem hz)
          omega), List.getElem?_set_self (by omega)]
      · exact ih1 x hx'
    · rw [List.foldl_cons, ih2 i (fun x hx' => hi x (List.mem_cons_of_mem _ hx')), List.getElem?_set_ne (by have := hi y List.mem_cons_self; omega)]
theorem flRow_get {st ba : Int} {l : List Pend} (h : Wok st ba l) : ∀ x ∈ l, (flRow ba (ctlL st ba l + 1 - ba).toNat l)[(x.lba - ba).toNat]? = some x.blk := by
  have hc := h.ctl
  exact (flRow_at l h.inc (fun x hx => ⟨(h.each x hx).1, by have := h.le_last x hx; omega⟩) (List.replicate (ctlL st ba l + 1 - ba).toNat (fillS 0)) (List.length_replicate ..)).1
theorem flRow_zero {st ba : Int} {l : List Pend} (h : Wok st ba l) {i : Nat} (hi : (i : Int) < ctlL st ba l + 1 - ba) (hn : ∀ x ∈ l, x.lba ≠ ba + (i : Int)) : (flRow ba (ctlL st ba l + 1 - ba).toNat l)[i]? = some (fillS 0) := by
  have hc := h.ctl
  have := (flRow_at l h.inc (fun x hx => ⟨(h.each x hx).1, by have := h.le_last x hx; omega⟩) (List.replicate (ctlL st ba l + 1 - ba).toNat (fillS 0)) (List.length_replicate ..)).2 i hn
  unfold flRow
  rw [this, List.getElem?_replicate, if_pos (by omega)]
/-- Pending addresses are no control blocks. -/
theorem pend_ne {st ba : Int} {l : List Pend} (h : Wok st ba l) {x : Pend} (hx : x ∈ l) {a : Int} (ha : (a - st) % 8 = 7) : x.lba ≠ a := by
  have := (usB_iff.1 (h.each x hx).2.1).2.2
  intro e
  rw [e] at this
  exact this ha
theorem flAll_pend {st ba : Int} {l : List Pend} {ctl : ByteArray} (h : Wok st ba l) : ∀ x ∈ l, (flAll st ba l ctl)[(x.lba - ba).toNat]? = some x.blk := by
  intro x hx
  have hc := h.ctl
  unfold flAll flCtl
  split
  · exact flRow_get h x hx
  · have hne := pend_ne h hx (a := ctlL st ba l) (by omega)
    have := (h.each x hx).1
    rw [List.getElem?_set_ne (by rw [flRow_length]; omega)]
    exact flRow_get h x hx
theorem flAll_last {st ba : Int} {l : List Pend} {ctl : ByteArray} (h : Wok st ba l) (hc : ctl.toList ≠ []) : (flAll st ba l ctl)[(ctlL st ba l - ba).toNat]? = some ctl := by
  have hct := h.ctl
  unfold flAll flCtl
  rw [if_neg hc, flRow_length, show (ctlL st ba l + 1 - ba).toNat - 1 = (ctlL st ba l - ba).toNat by omega, List.getElem?_set_self (by rw [flRow_length]; omega)]
/-- The reserved blocks. -/
theorem flAll_seven {st ba : Int} {l : List Pend} {ctl : ByteArray} (h : Wok st ba l) {i : Nat} (hi : (i : Int) < ctlL st ba l + 1 - ba) (h7 : (ba + (i : Int) - st) % 8 = 7) (hl : ba + (i : Int) ≠ ctlL st ba l ∨ ctl.toList = []) : (flAll st ba l ctl)[i]? = some (fillS 0) := by
  have hct := h.ctl
  have hz := flRow_zero h hi (fun x hx => pend_ne h hx h7)
  unfold flAll flCtl
  split
  · exact hz
  · rename_i hc
    rcases hl with hl | hl
    · rw [List.getElem?_set_ne (by rw [flRow_length]; omega)]
      exact hz
    · exact absurd hl hc
theorem flRow_ok {ba : Int} : ∀ (l : List Pend) (r : List ByteArray), (∀ b ∈ r, blkOk b = true) → (∀ x ∈ l, blkOk x.blk = true) → ∀ b ∈ l.foldl (fun r x => r.set (x.lba - ba).toNat x.blk) r, blkOk b = true
  | [], r, h, _ => h
  | y :: t, r, h, hx => by
    rw [List.foldl_cons]
    refine flRow_ok t _ (fun b hb => ?_) (fun x hx' => hx x (List.mem_cons_of_mem _ hx'))
    rcases List.mem_or_eq_of_mem_set hb with hb | hb
    · exact h b hb
    · rw [hb]; exact hx y List.mem_cons_self
theorem flAll_ok {st ba : Int} {l : List Pend} {ctl : ByteArray} (h : Wok st ba l) (ho : openL l = []) (hc : ctl.toList = [] ∨ blkOk ctl = true) : (flAll st ba l ctl).all blkOk = true := by
  have hx : ∀ x ∈ l, blkOk x.blk = true := by
    intro x hx
    rcases h.blk x hx with hb | hb
    · have : x.lba ∈ openL l := by
        unfold openL
        exact List.mem_map_of_mem (List.mem_filter.2 ⟨hx, decide_eq_true hb⟩)
      rw [ho] at this
      exact (List.not_mem_nil this).elim
    · exact hb
  have h1 := flRow_ok (ba := ba) l (List.replicate (ctlL st ba l + 1 - ba).toNat (fillS 0)) (fun b hb => by rw [List.eq_of_mem_replicate hb]; exact fillS_ok 0) hx
  refine List.all_eq_true.2 fun b hb => ?_
  unfold flAll flCtl at hb
  split at hb
  · exact h1 b hb
  · rename_i hcn
    rcases List.mem_or_eq_of_mem_set hb with hb | hb
    · exact h1 b hb
    · rcases hc with hc | hc
      · exact absurd hc hcn
      · rw [hb]; exact hc
/-- The writes of a flush behind a valid image are valid, each address is written once, and the row is recorded. -/
structure FlRec (img : Img) (ws : List Wr) (R : Img) : Prop where
  v : validB img ws = true
  o : onceB img ws = true
  r : cutR img ws ((nSt ws : Nat) : Int) = (R, 0)
  n : nSt ws ≤ 4096
theorem flush_rec {gb m : Nat} {st ba : Int} {l : List Pend} {ctl : ByteArray} {img : Img} (h : Wok st ba l) (ho : openL l = []) (hc : ctl.toList = [] ∨ blkOk ctl = true) (hm : 0 < m) (h8 : (8 * m : Int) = ctlL st ba l + 1 - ba) (hE : ctlL st ba l + 1 ≤ 4096)
    (hi : (img.length : Int) ≤ ba) (hie : img.all elOk = true) : FlRec img (flWs gb ba (flAll st ba l ctl) m m) (img ++ List.replicate (ba.toNat - img.length) blankS ++ flAll st ba l ctl) := by
  have h0 : 0 ≤ ba := by have := h.st0; have := h.stba; omega
  have hb4 := h.ba4
  have hrl : (flAll st ba l ctl).length = 8 * m := by rw [flAll_length]; omega
  have hok := flAll_ok h ho hc
  obtain ⟨row, hrow⟩ : ∃ row, flAll st ba l ctl = row := ⟨_, rfl⟩
  rw [hrow] at hrl hok ⊢
  have hst := steps_flush (gb := gb) (ba := ba) (row := row) (m := m) h0 (by omega) (by omega) hrl m (Nat.le_refl _)
  have hn : nSt (flWs gb ba row m m) = 8 * m := by unfold nSt; rw [hst, flSteps_length]
  have hw : (flWs gb ba row m m).all wrOk = true := by
    refine List.all_eq_true.2 fun x hx => ?_
    unfold flWs at hx
    obtain ⟨j, hj, rfl⟩ := List.mem_map.1 hx
    have hj := List.mem_range.1 hj
    have hbl : ((row.drop (8 * j)).take 8).length = 8 := by rw [List.length_take, List.length_drop]; omega
    have hall : ((row.drop (8 * j)).take 8).all blkOk = true := List.all_eq_true.2 fun b hb => List.all_eq_true.1 hok b (List.mem_of_mem_drop (List.mem_of_mem_take hb))
    unfold wrOk flW
    dsimp only
    rw [hbl, hall, decide_eq_true (show (0 : Int) ≤ ba + 8 * (j : Int) by omega), decide_eq_true (show ba + 8 * (j : Int) ≤ 4096 by omega), decide_eq_true (show ((8 : Nat) : Int) ≤ 4096 - (ba + 8 * (j : Int)) by omega)]
    rfl
  have hv : validB img (flWs gb ba row m m) = true := by
    unfold validB
    rw [hw, hie, flWs_length, decide_eq_true (show img.length ≤ 4096 by omega), decide_eq_true (show m ≤ 1024 by omega)]
    rfl
  refine ⟨hv, ?_, ?_, by rw [hn]; omega⟩
  · unfold onceB
    rw [hv, Bool.true_and, hn, hst]
    refine List.all_eq_true.2 fun i hir => ?_
    have hir := List.mem_range.1 hir
    unfold freeK
    have hs : (flSteps ba row (8 * m))[i]? = some ⟨ba + (i : Int), row[i]?.getD blankS, false⟩ := by unfold flSteps; rw [List.getElem?_map, List.getElem?_range hir]; rfl
    rw [hs, cutK_flush h0 hi (by omega) i (by omega) (by omega)]
    dsimp only
    unfold hasB
    rw [List.getElem?_eq_none]
    · rfl
    · split
      · omega
      · rw [List.length_append, List.length_append, List.length_replicate, List.length_take]
        omega
  · unfold cutR
    rw [if_pos hv, if_neg (by omega), Int.toNat_natCast]
    unfold cutL
    rw [hn, hst, flSteps_length, Nat.min_eq_right (by omega), cutK_flush h0 hi (by omega) (8 * m) (Nat.le_refl _) (Nat.le_refl _), if_neg (by omega), List.take_of_length_le (by omega)]
end Go.Proofs.Ytdmdfpdigoijoaa
