/-
  Chapter 24: what is encoded is decoded (plain Lean).
-/
import Derived.Test.YtnomodbcpndocaaSuW
namespace Go.Proofs.Ytnomodbcpndocaa
open Go.RowKit
set_option linter.unusedVariables false

theorem mk_eq (s : ByteArray) : s = ⟨s.data.toList.toArray⟩ := rfl
theorem mk_ext {a b : ByteArray} (h : a.data.toList = b.data.toList) : a = b := by
  rw [mk_eq a, mk_eq b, h]
theorem ext_data (S : ByteArray) (i j : Nat) : (S.extract i j).data.toList = (S.data.toList.drop i).take (j - i) := by
  rw [ByteArray.data_extract]
  simp only [Array.toList_extract, List.extract_eq_take_drop]
theorem size_data (s : ByteArray) : s.size = s.data.toList.length := by simp
theorem sgC_pos {c : UInt8} (h : sgC c = true) : c.toNat ≠ 0 := by
  unfold sgC at h
  simp only [Bool.or_eq_true, Bool.and_eq_true, decide_eq_true_eq] at h
  omega
theorem sig_two {s : ByteArray} (h : sigB s = true) : ∃ a b : UInt8, s.data.toList = [a, b] ∧ sgC a = true ∧ sgC b = true := by
  unfold sigB sigL at h
  rw [Bool.and_eq_true, decide_eq_true_eq] at h
  obtain ⟨h1, h2⟩ := h
  match hs : s.data.toList, h2 with
  | [a, b], _ =>
    rw [hs] at h1
    simp at h1
    exact ⟨a, b, rfl, h1.1, h1.2⟩
theorem nthB_list {t : ByteArray} {L : List UInt8} (h : t.data.toList = L) (i : Nat) : nthB t i = (L[i]?.getD 0).toNat := by unfold nthB; rw [h]
/-- One entry is read. -/
theorem dec_one {x : Ent} {t : ByteArray} {R : List UInt8} (ht : t.data.toList = entB x ++ R) (he : errE x = 0) (hst : x.sg ≠ stS) : decO t = (decO ⟨R.toArray⟩).map (x :: ·) := by
  obtain ⟨h1, hv0, hv1, hd⟩ := errE_zero.1 he
  obtain ⟨a, b, hab, ha, hb⟩ := sig_two h1
  have hL : t.data.toList = a :: b :: UInt8.ofNat (4 + x.d.size) :: UInt8.ofNat x.v.toNat :: (x.d.data.toList ++ R) := by
    rw [ht]
    unfold entB
    rw [hab]
    simp
  have hsz : t.size = 4 + x.d.size + R.length := by
    rw [size_data, hL]
    simp
    omega
  have n0 : nthB t 0 = a.toNat := by rw [nthB_list hL]; rfl
  have n2 : nthB t 2 = 4 + x.d.size := by
    rw [nthB_list hL]
    show (UInt8.ofNat (4 + x.d.size)).toNat = _
    rw [UInt8.toNat_ofNat']
    omega
  have n3 : ((nthB t 3 : Nat) : Int) = x.v := by
    rw [nthB_list hL]
    show ((UInt8.ofNat x.v.toNat).toNat : Int) = _
    rw [UInt8.toNat_ofNat']
    omega
  have e02 : t.extract 0 2 = x.sg := mk_ext (by rw [ext_data, hL, hab]; rfl)
  have e4 : t.extract 4 (4 + x.d.size) = x.d := mk_ext (by
    rw [ext_data, hL, show 4 + x.d.size - 4 = x.d.data.toList.length by rw [← size_data]; omega]
    show List.take _ (x.d.data.toList ++ R) = _
    rw [List.take_left])
  have er : restB t = ⟨R.toArray⟩ := mk_ext (by
    unfold restB
    rw [ext_data, n2, hL, hsz]
    show List.take _ (List.drop (4 + x.d.size) (a :: b :: _ :: _ :: (x.d.data.toList ++ R))) = R
    rw [Nat.add_comm 4]
    show List.take _ (List.drop x.d.size (x.d.data.toList ++ R)) = R
    rw [size_data x.d, List.drop_left]
    exact List.take_of_length_le (by omega))
  have hs : ¬ stopB t := by
    rintro (h | h | h)
    · omega
    · rw [n0] at h; exact sgC_pos ha h
    · rw [e02] at h; exact hst h
  have hb2 : ¬ badB t := by
    rintro (h | h | h)
    · rw [e02, h1] at h; cases h
    · omega
    · omega
  have hh : headB t = x := by
    unfold headB
    rw [e02, n2, n3, e4]
  rw [decO_more hs hb2, hh, er]
theorem dec_enc : ∀ (l : List Ent) {t : ByteArray} {R : List UInt8}, t.data.toList = encB l ++ R → (∀ x ∈ l, errE x = 0) → (∀ x ∈ l, x.sg ≠ stS) → decO t = (decO ⟨R.toArray⟩).map (l ++ ·)
  | [], t, R, ht, _, _ => by
    have : t = ⟨R.toArray⟩ := mk_ext (by rw [ht]; rfl)
    rw [this]
    cases decO ⟨R.toArray⟩ <;> rfl
  | x :: l, t, R, ht, he, hs => by
    rw [encB_cons, List.append_assoc] at ht
    rw [dec_one ht (he x List.mem_cons_self) (hs x List.mem_cons_self), dec_enc l (t := ⟨(encB l ++ R).toArray⟩) (R := R) (by simp) (fun y hy => he y (List.mem_cons_of_mem _ hy)) (fun y hy => hs y (List.mem_cons_of_mem _ hy)), Option.map_map]
    rfl
theorem dec_full {l : List Ent} {t : ByteArray} {R : List UInt8} (ht : t.data.toList = encB l ++ R) (he : ∀ x ∈ l, errE x = 0) (hs : ∀ x ∈ l, x.sg ≠ stS) (hR : stopB ⟨R.toArray⟩) : decE t = 0 ∧ decL t = l := by
  have h := dec_enc l ht he hs
  rw [decO_stop hR, Option.map_some, List.append_nil] at h
  unfold decE decL
  rw [h]
  exact ⟨rfl, rfl⟩
theorem stop_short {R : List UInt8} (h : R.length < 4) : stopB ⟨R.toArray⟩ := .inl h
theorem stop_zero {R : List UInt8} : stopB ⟨(0 :: R).toArray⟩ := .inr (.inl rfl)
theorem stop_st {R : List UInt8} : stopB ⟨(83 :: 84 :: R).toArray⟩ := .inr (.inr (mk_ext (by rw [ext_data]; rfl)))
theorem encS_ok {l : List Ent} (h : checkL l = 0) : (encS l).data.toList = encB l := by unfold encS; rw [if_pos h]
theorem check_ok {l : List Ent} (h : checkL l = 0) : l.length ≤ 1024 ∧ ∀ x ∈ l, errE x = 0 := by
  have hn : l.length ≤ 1024 := by
    unfold checkL at h
    split at h
    · cases h
    · omega
  refine ⟨hn, errL_each ?_⟩
  unfold checkL at h
  rwa [if_neg (by omega)] at h
theorem errL_all : ∀ {l : List Ent}, (∀ x ∈ l, errE x = 0) → errL l = 0
  | [], _ => rfl
  | x :: l, h => by
    have := errL_all (l := l) (fun y hy => h y (List.mem_cons_of_mem _ hy))
    unfold errL
    rw [h x List.mem_cons_self]
    simpa using this
theorem check_mk {l : List Ent} (hn : l.length ≤ 1024) (h : ∀ x ∈ l, errE x = 0) : checkL l = 0 := by
  unfold checkL
  rw [if_neg (by omega), errL_all h]
end Go.Proofs.Ytnomodbcpndocaa
