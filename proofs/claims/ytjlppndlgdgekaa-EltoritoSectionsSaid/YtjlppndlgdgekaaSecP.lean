/-
  Images of one platform in one section, in plain mathematics.
-/
import Derived.Test.YtjlppndlgdgekaaCat
namespace Go.Proofs.Ytjlppndlgdgekaa
set_option linter.unusedVariables false

def hdrB (kb pb nb : UInt8) : List UInt8 := [kb, pb, nb, 0] ++ zs 28
theorem hdrB_length (kb pb nb : UInt8) : (hdrB kb pb nb).length = 32 := by simp [hdrB, zs_length]
theorem hdrB_facts (kb pb nb : UInt8) : byteL (hdrB kb pb nb) 0 = (kb.toNat : Int) ∧ byteL (hdrB kb pb nb) 1 = (pb.toNat : Int) ∧ rdL (hdrB kb pb nb) 2 2 = (nb.toNat : Int) := by
  refine ⟨rfl, rfl, ?_⟩
  show ((nb.toNat + 256 * ((0 : UInt8).toNat + 256 * 0) : Nat) : Int) = (nb.toNat : Int)
  simp
theorem range1 (m : Nat) : List.range' 1 m = (List.range' 0 m).map (· + 1) := by
  have := List.range_succ_eq_map (n := m)
  rw [List.range_eq_range', List.range'_succ, List.range_eq_range'] at this
  injection this
theorem map_entAt (r : List UInt8) (n : Nat) : ∀ (E : List (List UInt8)), (∀ e ∈ E, e.length = 32) → (List.range' 0 (E.length + n)).map (entAt (E.flatten ++ r)) = E ++ (List.range' 0 n).map (entAt r)
  | [], _ => by simp
  | e :: E, h => by
    have he : e.length = 32 := h e (List.mem_cons_self ..)
    have ih := map_entAt r n E (fun x hx => h x (List.mem_cons_of_mem _ hx))
    rw [List.length_cons, show E.length + 1 + n = (E.length + n) + 1 by omega, List.range'_succ, List.map_cons, List.cons_append, List.flatten_cons]
    congr 1
    · unfold entAt
      rw [Nat.mul_zero, List.drop_zero, List.append_assoc, List.take_append_of_le_length (by omega), List.take_of_length_le (by omega)]
    · rw [← ih, Nat.zero_add, show List.range' 1 (E.length + n) = (List.range' 0 (E.length + n)).map (· + 1) from range1 _, List.map_map]
      apply List.map_congr_left
      intro i _
      show entAt (e ++ E.flatten ++ r) (i + 1) = entAt (E.flatten ++ r) i
      unfold entAt
      rw [List.append_assoc, show 32 * (i + 1) = e.length + 32 * i by omega, List.drop_append]
      rw [show List.drop (e.length + 32 * i) e = [] from List.drop_eq_nil_of_le (by omega), List.nil_append, show e.length + 32 * i - e.length = 32 * i by omega]
theorem flatten_len : ∀ (E : List (List UInt8)), (∀ e ∈ E, e.length = 32) → E.flatten.length = 32 * E.length
  | [], _ => rfl
  | e :: E, h => by
    rw [List.flatten_cons, List.length_append, h e (List.mem_cons_self ..), flatten_len E (fun x hx => h x (List.mem_cons_of_mem _ hx)), List.length_cons]
    omega

structure SecI (l : List Img) (x0 : Img) (i : Nat) (P : List (List UInt8)) : Prop where
  len : ∀ e ∈ P, e.length = 32
  cnt : P.length ≤ 2 * (i - 1)
  go : i < l.length → ∃ p hd, ∀ R, runL (P ++ R) ⟨x0.plat, 0, true, 0, [x0]⟩ = runL R ⟨p, 0, true, hd, l.take i⟩
  fin : i = l.length → ∀ R, runL (P ++ R) ⟨x0.plat, 0, true, 0, [x0]⟩ = (0, l)
theorem SecI.start {l : List Img} {x0 : Img} (h0 : l[0]? = some x0) (h1 : 1 < l.length) : SecI l x0 1 [] := by
  refine ⟨fun e he => (List.not_mem_nil he).elim, by simp, fun _ => ⟨x0.plat, 0, fun R => ?_⟩, fun h => by omega⟩
  have : l.take 1 = [x0] := by
    cases l with
    | nil => simp at h0
    | cons y r => simp at h0; simp [h0]
  rw [this]
  rfl
theorem SecI.step {l : List Img} {x0 : Img} {i k : Nat} {P : List (List UInt8)} (h : SecI l x0 i P) (hok : ∀ x ∈ l, ImOk x) (h1 : 1 ≤ i) (hik : i < k) (hk : k ≤ l.length) {q : Int} (hq : ∀ j x, i ≤ j → j < k → l[j]? = some x → x.plat = q)
    {kb pb nb : UInt8} (hkb : (kb.toNat : Int) = if k = l.length then 145 else 144) (hpb : (pb.toNat : Int) = q) (hnb : (nb.toNat : Int) = (k : Int) - i) :
    SecI l x0 k (P ++ hdrB kb pb nb :: ((l.drop i).take (k - i)).map imgL) := by
  obtain ⟨p, hd, hgo⟩ := h.go (by omega)
  obtain ⟨f0, f1, f2⟩ := hdrB_facts kb pb nb
  have hG : ∀ x ∈ (l.drop i).take (k - i), ImOk x ∧ x.plat = q := fun x hx => by
    obtain ⟨j, hj⟩ := List.getElem?_of_mem hx
    have hj' := hj
    rw [List.getElem?_take] at hj
    split at hj
    · rw [List.getElem?_drop] at hj
      exact ⟨hok x (List.mem_of_getElem? hj), hq (i + j) x (by omega) (by omega) hj⟩
    · cases hj
  have hlen : ((l.drop i).take (k - i)).length = k - i := by rw [List.length_take, List.length_drop]; omega
  have hplat : platB q = true := by
    obtain ⟨x, hx⟩ : ∃ x, l[i]? = some x := ⟨_, List.getElem?_eq_getElem (show i < l.length by omega)⟩
    rw [← hq i x (Nat.le_refl _) hik hx]
    exact (hok x (List.mem_of_getElem? hx)).plat
  have hmap : (((l.drop i).take (k - i)).map imgL).map (imgOf q) = (l.drop i).take (k - i) := by
    rw [List.map_map]
    conv => rhs; rw [← List.map_id ((l.drop i).take (k - i))]
    apply List.map_congr_left
    intro x hx
    obtain ⟨a, b⟩ := hG x hx
    rw [← b]
    exact (imgL_ent a).2
  have htk : l.take i ++ (l.drop i).take (k - i) = l.take k := by
    rw [← List.take_add, show i + (k - i) = k by omega]
  have key : ∀ R, runL ((P ++ hdrB kb pb nb :: ((l.drop i).take (k - i)).map imgL) ++ R) ⟨x0.plat, 0, true, 0, [x0]⟩ = if k = l.length then (0, l) else runL R ⟨q, 0, true, hd + 1, l.take k⟩ := fun R => by
    rw [List.append_assoc, hgo]
    have := run_sec (h := hdrB kb pb nb) (es := ((l.drop i).take (k - i)).map imgL) (rest := R) (p := p) (hd := hd) (mo := true) (out := l.take i)
      (by rw [f0, hkb]; split <;> simp) (by rw [f1, hpb]; exact hplat) (by rw [f2, hnb, List.length_map, hlen]; omega) (by intro e; have := congrArg List.length e; rw [List.length_map, hlen] at this; simp at this; omega)
      (by intro e he; obtain ⟨x, hx, rfl⟩ := List.mem_map.1 he; exact (imgL_ent (hG x hx).1).1)
    rw [this, f0, f1, hkb, hpb, hmap, htk]
    by_cases hkl : k = l.length
    · rw [if_pos hkl, if_pos rfl, if_pos hkl, hkl, List.take_length]
    · rw [if_neg hkl, if_neg (by decide), if_neg hkl]
  refine ⟨?_, ?_, fun hlt => ⟨q, hd + 1, fun R => by rw [key R, if_neg (by omega)]⟩, fun he R => by rw [key R, if_pos he]⟩
  · intro e he
    rw [List.mem_append, List.mem_cons] at he
    rcases he with he | rfl | he
    · exact h.len e he
    · exact hdrB_length _ _ _
    · obtain ⟨x, _, rfl⟩ := List.mem_map.1 he
      exact imgL_length x
  · have := h.cnt
    rw [List.length_append, List.length_cons, List.length_map, hlen]
    omega
/-- The whole block. -/
theorem SecI.dec {l : List Img} {x0 : Img} {P : List (List UInt8)} (h : SecI l x0 l.length P) (hok : ∀ x ∈ l, ImOk x) (hx : l[0]? = some x0) (hn : l.length ≤ 32) :
    decR ((valL x0.plat ++ imgL x0 ++ P.flatten) ++ zs (2048 - (64 + 32 * P.length))) = (0, l) := by
  have hxo := hok x0 (List.mem_of_getElem? hx)
  obtain ⟨_, _, _, v3⟩ := valL_ok hxo.plat
  have hc := h.cnt
  have hl : ∀ e ∈ valL x0.plat :: imgL x0 :: P, e.length = 32 := fun e he => by
    rw [List.mem_cons, List.mem_cons] at he
    rcases he with rfl | rfl | he
    · exact v3
    · exact imgL_length x0
    · exact h.len e he
  have hF : (valL x0.plat :: imgL x0 :: P).flatten = valL x0.plat ++ imgL x0 ++ P.flatten := by simp
  have hz : (zs (2048 - (64 + 32 * P.length))).length = 2048 - (64 + 32 * P.length) := zs_length _
  generalize zs (2048 - (64 + 32 * P.length)) = Z at *
  have hm := map_entAt Z (62 - P.length) (valL x0.plat :: imgL x0 :: P) hl
  have hn2 : (valL x0.plat :: imgL x0 :: P).length + (62 - P.length) = 62 + 1 + 1 := by simp only [List.length_cons]; omega
  rw [hF, hn2] at hm
  have hlen : ((valL x0.plat ++ imgL x0 ++ P.flatten) ++ Z).length = 2048 := by
    rw [List.length_append, List.length_append, List.length_append, v3, imgL_length, flatten_len P h.len, hz]
    omega
  generalize (valL x0.plat ++ imgL x0 ++ P.flatten) ++ Z = F at *
  generalize (List.range' 0 (62 - P.length)).map (entAt Z) = R at *
  rw [List.range'_succ, List.range'_succ, List.map_cons, List.map_cons, List.cons_append, List.cons_append] at hm
  obtain ⟨m0, hm⟩ := List.cons.inj hm
  obtain ⟨m1, hm⟩ := List.cons.inj hm
  have e1 : ImEnt x0 (entAt F 1) := by
    have : entAt F 1 = imgL x0 := m1
    rw [this]
    exact imgL_ent hxo
  rw [cat_first hlen hx hxo.plat m0 e1]
  have e2 : (List.range' 2 62).map (entAt F) = P ++ R := hm
  rw [e2]
  exact h.fin rfl _
end Go.Proofs.Ytjlppndlgdgekaa
