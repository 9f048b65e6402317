/-
  SuspSplits, plain: the places of the law, and its image.
-/
import Derived.Test.YtnomodbcpndocaaSuZ
import Derived.Test.YtnomodbcpndocaaShelf
import Derived.Test.YtnomodbcpndocaaSuW
import Derived.Test.YtnomodbcpndocaaSuS
namespace Go.Proofs.Ytnomodbcpndocaa
open Go.RowKit
set_option linter.unusedVariables false

/-- The place of area i + 1. -/
def plO (ll : List (List Ent)) (os : List Int) (i : Nat) : Pl := ⟨3 + (i : Int), if 0 ≤ os[i]?.getD (-1) ∧ os[i]?.getD (-1) ≤ 2048 - jL ll (i + 1) then os[i]?.getD (-1) else 0⟩
def plsO (ll : List (List Ent)) (os : List Int) (k : Nat) : List Pl := (List.range k).map (plO ll os)
section
variable {ll : List (List Ent)} {os : List Int}
theorem plsO_length (k : Nat) : (plsO ll os k).length = k := by simp [plsO]
theorem plsO_get {k i : Nat} (h : i < k) : (plsO ll os k)[i]? = some (plO ll os i) := by simp [plsO, h]
theorem plsO_succ (k : Nat) : plsO ll os (k + 1) = plsO ll os k ++ [plO ll os k] := by simp [plsO, List.range_succ]
theorem plsO_jP {k i : Nat} (h : i < k) : jP (plsO ll os k) i = plO ll os i := by unfold jP; rw [plsO_get h]; rfl
theorem plO_off {i : Nat} (h : 1 ≤ jL ll (i + 1) ∧ jL ll (i + 1) ≤ 2048) : 0 ≤ (plO ll os i).off ∧ (plO ll os i).off + jL ll (i + 1) ≤ 2048 := by
  unfold plO
  dsimp only
  split <;> omega
/-- Join has no error on these places. -/
theorem splits_join (hn : 1 ≤ ll.length) (hn2 : ll.length ≤ 64) (hc : ∀ k, k < ll.length → checkL (jG ll k) = 0) (hl : ∀ k, k + 1 < ll.length → 1 ≤ jL ll (k + 1) ∧ jL ll (k + 1) ≤ 2048) : ∀ n, n ≤ ll.length → jErr ll (plsO ll os (ll.length - 1)) n = 0
  | 0, _ => rfl
  | n + 1, h => by
    have ih := splits_join hn hn2 hc hl n (by omega)
    show (if jErr ll (plsO ll os (ll.length - 1)) n = 0 then jE ll (plsO ll os (ll.length - 1)) n else _) = 0
    rw [if_pos ih]
    unfold jE
    rw [if_pos (hc n (by omega))]
    split
    · rfl
    · next hn0 =>
      obtain ⟨m, rfl⟩ : ∃ m, n = m + 1 := ⟨n - 1, by omega⟩
      rw [Nat.add_sub_cancel, plsO_jP (by omega)]
      have h1 := hl m (by omega)
      have h2 := plO_off (os := os) h1
      have h3 : (plO ll os m).lba = 3 + (m : Int) := rfl
      unfold contE
      rw [if_pos]
      unfold contB areaB fitsB
      simp only [Bool.and_eq_true, decide_eq_true_eq]
      omega
/-- n times one byte. -/
def repS (b : UInt8) (n : Nat) : ByteArray := ⟨(List.replicate n b).toArray⟩
theorem repS_size (b : UInt8) (n : Nat) : (repS b n).size = n := by show (List.replicate n b).toArray.size = n; simp
theorem repeat_b1 (b : UInt8) (n : Nat) : Lib.repeatL [b] n = List.replicate n b := by
  induction n with
  | zero => rfl
  | succ n ih => rw [Lib.repeatL, ih]; rfl
theorem bang_any (n : Nat) (w : World) (h : n ≤ 4096) : Calls Try.prog 34 #[.string ⟨#[33]⟩, .int .i64 n] w fun e w' => e = .returned (.string (repS 33 n)) ∧ Below w.heap.size w w' := by
  have := Try.strings_Repeat ⟨#[33]⟩ n w (by omega) (by show 1 * n ≤ _; omega)
  rwa [show (⟨#[33]⟩ : ByteArray).data.toList = [33] from rfl, repeat_b1] at this
theorem what_any (n : Nat) (w : World) (h : n ≤ 4096) : Calls Try.prog 34 #[.string ⟨#[63]⟩, .int .i64 n] w fun e w' => e = .returned (.string (repS 63 n)) ∧ Below w.heap.size w w' := by
  have := Try.strings_Repeat ⟨#[63]⟩ n w (by omega) (by show 1 * n ≤ _; omega)
  rwa [show (⟨#[63]⟩ : ByteArray).data.toList = [63] from rfl, repeat_b1] at this
/-- The block of area i + 1. -/
def blkO (ll : List (List Ent)) (os : List Int) (i : Nat) : ByteArray :=
  repS 33 (plO ll os i).off.toNat ++ jT ll (plsO ll os (ll.length - 1)) (i + 1) ++ repS 63 (2048 - (plO ll os i).off.toNat - (jT ll (plsO ll os (ll.length - 1)) (i + 1)).size)
/-- The image behind k blocks. -/
def imgO (ll : List (List Ent)) (os : List Int) (k : Nat) : List ByteArray := (List.range (3 + (ll.length - 1))).map fun j => if 3 ≤ j ∧ j < 3 + k then blkO ll os (j - 3) else ⟨#[]⟩
theorem imgO_length (k : Nat) : (imgO ll os k).length = 3 + (ll.length - 1) := by simp [imgO]
theorem imgO_get {k i : Nat} (hi : i < k) (hk : k ≤ ll.length - 1) : (imgO ll os k)[3 + i]? = some (blkO ll os i) := by
  unfold imgO
  rw [List.getElem?_map, List.getElem?_range (by omega), Option.map_some, if_pos (by omega), Nat.add_sub_cancel_left]
theorem blkO_area (hj : jErr ll (plsO ll os (ll.length - 1)) ll.length = 0) {i : Nat} (hi : i + 1 < ll.length) (hl : 1 ≤ jL ll (i + 1) ∧ jL ll (i + 1) ≤ 2048) :
    (blkO ll os i).size = 2048 ∧ (blkO ll os i).extract (plO ll os i).off.toNat ((plO ll os i).off.toNat + (jL ll (i + 1)).toNat) = jT ll (plsO ll os (ll.length - 1)) (i + 1) := by
  have hs := jT_size hj hi
  have ho := plO_off (os := os) hl
  unfold blkO
  generalize jT ll (plsO ll os (ll.length - 1)) (i + 1) = T at *
  generalize (plO ll os i).off = o at *
  generalize jL ll (i + 1) = n at *
  obtain ⟨a, rfl⟩ : ∃ a : Nat, o = a := ⟨o.toNat, by omega⟩
  subst hs
  refine ⟨?_, mk_ext ?_⟩
  · rw [ByteArray.size_append, ByteArray.size_append, repS_size, repS_size]
    simp only [Int.toNat_natCast]
    omega
  · rw [ext_data, ByteArray.data_append, ByteArray.data_append, Array.toList_append, Array.toList_append, Int.toNat_natCast, Int.toNat_natCast, Nat.add_sub_cancel_left]
    have h1 : (repS 33 a).data.toList.length = a := by simp [repS]
    rw [List.append_assoc, List.drop_append_of_le_length (by omega), List.drop_eq_nil_of_le (by omega), List.nil_append, List.take_append_of_le_length (by rw [size_data]; exact Nat.le_refl _), List.take_of_length_le (by rw [size_data]; exact Nat.le_refl _)]
theorem imgO_area (hj : jErr ll (plsO ll os (ll.length - 1)) ll.length = 0) (hl : ∀ k, k + 1 < ll.length → 1 ≤ jL ll (k + 1) ∧ jL ll (k + 1) ≤ 2048) : ∀ i, 1 ≤ i → i < ll.length → AreaAt (imgO ll os (ll.length - 1)) ll (plsO ll os (ll.length - 1)) i := by
  intro i h1 h2
  obtain ⟨m, rfl⟩ : ∃ m, i = m + 1 := ⟨i - 1, by omega⟩
  obtain ⟨e1, e2⟩ := blkO_area hj h2 (hl m h2)
  unfold AreaAt
  rw [Nat.add_sub_cancel, plsO_jP (by omega)]
  refine ⟨blkO ll os m, ?_, e1, e2⟩
  have : (plO ll os m).lba.toNat = 3 + m := by show (3 + (m : Int)).toNat = _; omega
  rw [this]
  exact imgO_get (by omega) (Nat.le_refl _)
end


theorem in_flat {g : List Ent} {ll : List (List Ent)} (h : g ∈ ll) : g.length ≤ ll.flatten.length ∧ ∀ x ∈ g, x ∈ ll.flatten := by
  refine ⟨?_, fun x hx => List.mem_flatten.2 ⟨g, h, hx⟩⟩
  induction ll with
  | nil => cases h
  | cons a r ih =>
    rw [List.flatten_cons, List.length_append]
    rcases List.mem_cons.1 h with rfl | h
    · omega
    · have := ih h; omega
theorem splits_ok {l : List Ent} {ll : List (List Ent)} (os : List Int) (hf : ll.flatten = l) (he : ∀ x ∈ l, errE x = 0 ∧ x.sg ≠ ceS ∧ x.sg ≠ stS) (hl : l.length ≤ 1024) (hn : 1 ≤ ll.length) (hn2 : ll.length ≤ 64) (hx : ∀ (k : Nat) (x : Int), (lenL ll)[k + 1]? = some x → 1 ≤ x ∧ x ≤ 2048) :
    jErr ll (plsO ll os (ll.length - 1)) ll.length = 0 ∧ joinE ll (plsO ll os (ll.length - 1)) = 0 ∧ (∀ k, k + 1 < ll.length → 1 ≤ jL ll (k + 1) ∧ jL ll (k + 1) ≤ 2048) ∧ (∀ k, k < ll.length → ∀ x ∈ jG ll k, x.sg ≠ ceS ∧ x.sg ≠ stS) := by
  have hg : ∀ k, k < ll.length → jG ll k ∈ ll := fun k hk => by
    unfold jG
    rw [List.getElem?_eq_getElem hk, Option.getD_some]
    exact List.getElem_mem _
  have hj : ∀ k, k + 1 < ll.length → 1 ≤ jL ll (k + 1) ∧ jL ll (k + 1) ≤ 2048 := fun k hk => by
    have h1 : k + 1 < (lenL ll).length := by rw [lenL_length]; exact hk
    have h2 := hx k _ (List.getElem?_eq_getElem h1)
    unfold jL
    rw [List.getElem?_eq_getElem h1, Option.getD_some]
    exact h2
  have hc : ∀ k, k < ll.length → checkL (jG ll k) = 0 := fun k hk => by
    obtain ⟨m1, m2⟩ := in_flat (hg k hk)
    rw [hf] at m1 m2
    exact check_mk (by omega) fun x hx => (he x (m2 x hx)).1
  have h0 := splits_join (os := os) hn hn2 hc hj ll.length (Nat.le_refl _)
  refine ⟨h0, ?_, hj, fun k hk x hx => ?_⟩
  · unfold joinE
    rw [if_neg (by rw [plsO_length]; omega)]
    exact h0
  · obtain ⟨m1, m2⟩ := in_flat (hg k hk)
    rw [hf] at m2
    exact (he x (m2 x hx)).2
theorem skU_zero (u : ByteArray) : skU u 0 = u := by
  unfold skU
  refine mk_ext ?_
  rw [ext_data, show min u.size (0 : Int).toNat = 0 by simp, List.drop_zero, Nat.sub_zero, List.take_of_length_le (by rw [size_data]; exact Nat.le_refl _)]
/-- The walk over the image finds the entries. -/
theorem splits_walk {ll : List (List Ent)} {os : List Int} (hn : 1 ≤ ll.length) (hn2 : ll.length ≤ 64) (h0 : jErr ll (plsO ll os (ll.length - 1)) ll.length = 0) (hj : ∀ k, k + 1 < ll.length → 1 ≤ jL ll (k + 1) ∧ jL ll (k + 1) ≤ 2048) (hno : ∀ k, k < ll.length → ∀ x ∈ jG ll k, x.sg ≠ ceS ∧ x.sg ≠ stS) :
    ∃ a, wkY (imgO ll os (ll.length - 1)) (jT ll (plsO ll os (ll.length - 1)) 0) 0 = (ll, a, 0) := by
  obtain ⟨a, h⟩ := walk_all h0 hno (imgO_area h0 hj) (ll.length - 1) 0 65 0 (by omega) (by omega)
  exact ⟨a, by unfold wkY; rw [skU_zero, h]; rfl⟩
/-- Without one of its blocks it finds none. -/
theorem splits_lost {ll : List (List Ent)} {os : List Int} {t : Nat} (ht : t + 1 < ll.length) (hn2 : ll.length ≤ 64) (h0 : jErr ll (plsO ll os (ll.length - 1)) ll.length = 0) (hj : ∀ k, k + 1 < ll.length → 1 ≤ jL ll (k + 1) ∧ jL ll (k + 1) ≤ 2048) (hno : ∀ k, k < ll.length → ∀ x ∈ jG ll k, x.sg ≠ ceS ∧ x.sg ≠ stS) :
    (wkY ((imgO ll os (ll.length - 1)).set (3 + t) ⟨#[]⟩) (jT ll (plsO ll os (ll.length - 1)) 0) 0).2 = (3 + (t : Int), 9) ∧ (wkY ((imgO ll os (ll.length - 1)).set (3 + t) ⟨#[]⟩) (jT ll (plsO ll os (ll.length - 1)) 0) 0).1 <+: ll := by
  have hlb : ∀ i, (plO ll os i).lba = 3 + (i : Int) := fun _ => rfl
  have h := walk_lost (img := (imgO ll os (ll.length - 1)).set (3 + t) ⟨#[]⟩) h0 hno (t := t + 1) (by omega) ht (fun i h1 h2 => by
    obtain ⟨b, e1, e2, e3⟩ := imgO_area h0 hj i h1 (by omega)
    refine ⟨b, ?_, e2, e3⟩
    rw [plsO_jP (by omega), hlb] at e1 ⊢
    rw [List.getElem?_set_ne (by omega)]
    exact e1) (by
    rw [Nat.add_sub_cancel, plsO_jP (by omega), hlb]
    unfold hasBlk
    rw [show (3 + (t : Int)).toNat = 3 + t by omega, List.getElem?_set_self (by rw [imgO_length]; omega), Option.getD_some]
    rw [Bool.and_eq_false_iff]
    exact .inr rfl) t 0 65 0 (by omega) (by omega)
  rw [Nat.add_sub_cancel, plsO_jP (by omega), hlb] at h
  unfold wkY
  rw [skU_zero]
  exact h
theorem plsO_good {ll : List (List Ent)} {os : List Int} {k : Nat} (hk : k ≤ 64) (hj : ∀ i, i < k → 1 ≤ jL ll (i + 1) ∧ jL ll (i + 1) ≤ 2048) : ∀ p ∈ plsO ll os k, PlG p := by
  intro p hp
  obtain ⟨i, hi, rfl⟩ := List.mem_map.1 hp
  have hi := List.mem_range.1 hi
  have h := plO_off (os := os) (hj i hi)
  have h2 := hj i hi
  have e : (plO ll os i).lba = 3 + (i : Int) := rfl
  exact ⟨by omega, by omega⟩

theorem strV_set (l : List ByteArray) (k : Nat) (s : ByteArray) : (strV l).set k (.string s) = strV (l.set k s) := by
  unfold strV
  rw [← List.map_set]
section
variable {ll : List (List Ent)} {os : List Int}
theorem imgO_zero : imgO ll os 0 = List.replicate (3 + (ll.length - 1)) ⟨#[]⟩ := by
  refine List.eq_replicate_iff.2 ⟨imgO_length 0, fun b hb => ?_⟩
  obtain ⟨j, _, rfl⟩ := List.mem_map.1 hb
  rw [if_neg (by omega)]
theorem imgO_at {k j : Nat} (hj : j < 3 + (ll.length - 1)) : (imgO ll os k)[j]? = some (if 3 ≤ j ∧ j < 3 + k then blkO ll os (j - 3) else ⟨#[]⟩) := by
  unfold imgO
  rw [List.getElem?_map, List.getElem?_range hj, Option.map_some]
theorem imgO_set {i : Nat} (hi : i < ll.length - 1) : (imgO ll os i).set (3 + i) (blkO ll os i) = imgO ll os (i + 1) := by
  refine List.ext_getElem? fun j => ?_
  by_cases hj : j < 3 + (ll.length - 1)
  · rw [imgO_at hj, List.getElem?_set]
    by_cases h : 3 + i = j
    · rw [if_pos h, if_pos (by rw [imgO_length]; omega), if_pos (by omega)]
      congr 2
      omega
    · rw [if_neg h, imgO_at hj]
      by_cases h2 : 3 ≤ j ∧ j < 3 + i
      · rw [if_pos h2, if_pos (by omega)]
      · rw [if_neg h2, if_neg (by omega)]
  · rw [List.getElem?_eq_none (by rw [List.length_set, imgO_length]; omega), List.getElem?_eq_none (by rw [imgO_length]; omega)]
theorem imgO_cell {i j : Nat} (hj : j < 3 + (ll.length - 1)) : ∃ s, (strV (imgO ll os i))[j]? = some (.string s) := ⟨_, strV_get (imgO_at hj)⟩
theorem jL_get {k : Nat} (hk : k < ll.length) : (lenL ll)[k]? = some (jL ll k) := by
  unfold jL
  rw [lenL_get ll k _ (List.getElem?_eq_getElem hk), Option.getD_some]
theorem jL_zero {B : Nat} (hn : 1 ≤ ll.length) (h : ∀ g ∈ ll, sizeL g ≤ B) : jL ll 0 ≤ (B : Int) + 28 := by
  unfold jL
  rw [lenL_get ll 0 _ (List.getElem?_eq_getElem (show 0 < ll.length by omega)), Option.getD_some]
  have := h _ (List.getElem_mem (show 0 < ll.length by omega))
  split <;> omega
/-- What the law is told of the walk over all of the image. -/
theorem walk_fin {l : List Ent} (hf : ll.flatten = l) (hn : 1 ≤ ll.length) (hn2 : ll.length ≤ 64) (h0 : jErr ll (plsO ll os (ll.length - 1)) ll.length = 0) (hj : ∀ k, k + 1 < ll.length → 1 ≤ jL ll (k + 1) ∧ jL ll (k + 1) ≤ 2048) (hno : ∀ k, k < ll.length → ∀ x ∈ jG ll k, x.sg ≠ ceS ∧ x.sg ≠ stS) :
    (wkY (imgO ll os (ll.length - 1)) (jT ll (plsO ll os (ll.length - 1)) 0) 0).2.2 = 0 ∧ (wkY (imgO ll os (ll.length - 1)) (jT ll (plsO ll os (ll.length - 1)) 0) 0).1.flatten = l ∧
    wkL (imgO ll os (ll.length - 1)) (jT ll (plsO ll os (ll.length - 1)) 0) 0 = l ∧ wkB (imgO ll os (ll.length - 1)) (jT ll (plsO ll os (ll.length - 1)) 0) 0 = 0 := by
  obtain ⟨a, h⟩ := splits_walk hn hn2 h0 hj hno (os := os)
  refine ⟨by rw [h], by rw [h]; exact hf, ?_, ?_⟩
  · unfold wkL
    rw [h, if_pos rfl]
    exact hf
  · unfold wkB
    rw [h, if_pos rfl]
/-- And without one of the blocks. -/
theorem lost_fin {l : List Ent} {t : Nat} (hf : ll.flatten = l) (ht : t + 1 < ll.length) (hn2 : ll.length ≤ 64) (h0 : jErr ll (plsO ll os (ll.length - 1)) ll.length = 0) (hj : ∀ k, k + 1 < ll.length → 1 ≤ jL ll (k + 1) ∧ jL ll (k + 1) ≤ 2048) (hno : ∀ k, k < ll.length → ∀ x ∈ jG ll k, x.sg ≠ ceS ∧ x.sg ≠ stS) :
    (wkY ((imgO ll os (ll.length - 1)).set (3 + t) ⟨#[]⟩) (jT ll (plsO ll os (ll.length - 1)) 0) 0).2.2 = 9 ∧ (wkY ((imgO ll os (ll.length - 1)).set (3 + t) ⟨#[]⟩) (jT ll (plsO ll os (ll.length - 1)) 0) 0).1.flatten.length ≤ l.length ∧
    wkL ((imgO ll os (ll.length - 1)).set (3 + t) ⟨#[]⟩) (jT ll (plsO ll os (ll.length - 1)) 0) 0 = [] ∧ wkB ((imgO ll os (ll.length - 1)).set (3 + t) ⟨#[]⟩) (jT ll (plsO ll os (ll.length - 1)) 0) 0 = 3 + (t : Int) := by
  obtain ⟨h1, h2⟩ := splits_lost ht hn2 h0 hj hno (os := os)
  refine ⟨by rw [h1], ?_, ?_, ?_⟩
  · obtain ⟨r, hr⟩ := h2
    rw [← hf]
    have := congrArg (fun x => x.flatten.length) hr
    simp only [List.flatten_append, List.length_append] at this
    omega
  · unfold wkL
    rw [h1, if_neg (show ¬ (9 : Int) = 0 by decide)]
  · unfold wkB
    rw [h1, if_neg (show ¬ (9 : Int) = 0 by decide)]
end
end Go.Proofs.Ytnomodbcpndocaa
