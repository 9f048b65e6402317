/-
  Chapter 24: groups in plain Lean; front of the reference.
-/
import Derived.Test.YtnomodbcpndocaaSuF
import Derived.Test.YtnomodbcpndocaaAppAny
namespace Go.Proofs.Ytnomodbcpndocaa
open Go.RowKit
set_option linter.unusedVariables false

def frontN : List Ent → Int → Nat
  | [], _ => 0
  | x :: l, r => if (sizeE x : Int) ≤ r then 1 + frontN l (r - sizeE x) else 0
theorem frontN_le : ∀ (l : List Ent) (r : Int), frontN l r ≤ l.length
  | [], _ => Nat.le_refl _
  | x :: l, r => by
    unfold frontN
    split
    · have := frontN_le l (r - sizeE x); rw [List.length_cons]; omega
    · exact Nat.zero_le _
theorem frontN_lt : ∀ (l : List Ent) (r : Int) (k : Nat), k ≤ frontN l r → (k < frontN l r ↔ k < l.length ∧ (sizeL (l.take (k + 1)) : Int) ≤ r)
  | [], r, k, h => by simp [frontN]
  | x :: l, r, k, h => by
    unfold frontN at h ⊢
    by_cases hx : (sizeE x : Int) ≤ r
    · rw [if_pos hx] at h ⊢
      cases k with
      | zero =>
        simp [sizeL_cons, sizeL_nil, hx]
        omega
      | succ k =>
        have ih := frontN_lt l (r - sizeE x) k (by omega)
        rw [List.take_succ_cons, sizeL_cons, List.length_cons]
        constructor
        · intro hk
          obtain ⟨h1, h2⟩ := ih.1 (by omega)
          exact ⟨by omega, by omega⟩
        · rintro ⟨h1, h2⟩
          have := ih.2 ⟨by omega, by omega⟩
          omega
    · rw [if_neg hx] at h ⊢
      obtain rfl : k = 0 := by omega
      constructor
      · intro h; omega
      · rintro ⟨h1, h2⟩
        rw [List.take_succ_cons, sizeL_cons, List.take_zero, sizeL_nil] at h2
        omega
theorem frontN_size : ∀ (l : List Ent) (r : Int), 0 ≤ r → (sizeL (l.take (frontN l r)) : Int) ≤ r
  | [], r, h => by simpa [frontN, sizeL_nil] using h
  | x :: l, r, h => by
    unfold frontN
    split
    · rename_i hx
      have ih := frontN_size l (r - sizeE x) (by omega)
      rw [Nat.add_comm, List.take_succ_cons, sizeL_cons]
      omega
    · rw [List.take_zero, sizeL_nil]; exact h
theorem frontN_short {l : List Ent} {r : Int} (h0 : 0 ≤ r) (h : r < (sizeL l : Int)) : frontN l r < l.length := by
  have h1 := frontN_le l r
  rcases Nat.lt_or_eq_of_le h1 with h2 | h2
  · exact h2
  · have h3 := frontN_size l r h0
    rw [h2, List.take_of_length_le (Nat.le_refl _)] at h3
    omega
theorem frontN_pos {l : List Ent} {r : Int} (h : 255 ≤ r) (hl : 0 < l.length) (he : ∀ x ∈ l, errE x = 0) : 0 < frontN l r := by
  cases l with
  | nil => simp at hl
  | cons x l =>
    have := (errE_zero.1 (he x List.mem_cons_self)).2.2.2
    unfold frontN
    rw [if_pos (by unfold sizeE; omega)]
    omega
/-- The groups, with fuel. -/
def grF : Nat → List Ent → Int → List (List Ent)
  | 0, l, _ => [l]
  | f + 1, l, r => if (sizeL l : Int) ≤ r then [l] else l.take (frontN l (r - 28)) :: grF f (l.drop (frontN l (r - 28))) 2048
def grL (l : List Ent) (r : Int) : List (List Ent) := grF (l.length + 1) l r
theorem grF_end {f : Nat} {l : List Ent} {r : Int} (h : (sizeL l : Int) ≤ r) : grF f l r = [l] := by
  cases f with
  | zero => rfl
  | succ f => show (if _ then _ else _) = _; rw [if_pos h]
theorem grF_more {f : Nat} {l : List Ent} {r : Int} (h : ¬ (sizeL l : Int) ≤ r) : grF (f + 1) l r = l.take (frontN l (r - 28)) :: grF f (l.drop (frontN l (r - 28))) 2048 := by
  show (if _ then _ else _) = _
  rw [if_neg h]
def ceS : ByteArray := ⟨#[67, 69]⟩
def linkE (x : Ent) : Bool := decide (x.sg = ceS) || decide (x.sg = stS)
def grE (l : List Ent) (r : Int) : Int :=
  if checkL l = 0 then (if l.any linkE then 1 else if r < 0 ∨ 254 < r then 2 else if r < sizeL l ∧ r < 28 then 12 else if 64 < (grL l r).length then 7 else 0) else checkL l
def grR (l : List Ent) (r : Int) : List (List Ent) := if grE l r = 0 then grL l r else []

/-- The values hs are slices of entries that read as the lists ll. -/
def GrAt (w : World) (B : Nat) (hs : List Value) (ll : List (List Ent)) : Prop :=
  hs.length = ll.length ∧ ∀ (i : Nat) l, ll[i]? = some l → ∃ A c, hs[i]? = some (.slice A l.length c) ∧ l.length ≤ c ∧ EnAt w B A l
theorem GrAt.below {w w' : World} {B : Nat} {hs : List Value} {ll : List (List Ent)} (h : GrAt w B hs ll) (hb : Below B w w') : GrAt w' B hs ll := ⟨h.1, fun i l hl => by
  obtain ⟨A, c, e, hc, hs⟩ := h.2 i l hl
  exact ⟨A, c, e, hc, hs.below hb⟩⟩
theorem GrAt.mono {w : World} {B C : Nat} {hs : List Value} {ll : List (List Ent)} (h : GrAt w B hs ll) (hB : B ≤ C) : GrAt w C hs ll := ⟨h.1, fun i l hl => by
  obtain ⟨A, c, e, hc, hs⟩ := h.2 i l hl
  exact ⟨A, c, e, hc, hs.mono hB⟩⟩
/-- The same, each in a block of the call's own. -/
def RowsE (w : World) (base G : Nat) (hs : List Value) (ll : List (List Ent)) : Prop :=
  hs.length = ll.length ∧ ∀ (i : Nat) l, ll[i]? = some l → ∃ v, hs[i]? = some v ∧ w.ownsRow base 41 3 v l.length (flat encE l) ∧ ∀ k, v.ownBlock = some k → k < G
section
variable {w w' : World} {base G G' : Nat} {v : Value} {l : List Ent} {hs : List Value} {ll : List (List Ent)}
theorem RowsE.nil : RowsE w base G [] [] := ⟨rfl, fun i l h => by simp at h⟩
theorem RowsE.below (h : RowsE w base G hs ll) (hb : Below G w w') : RowsE w' base G hs ll := ⟨h.1, fun i l hl => by
  obtain ⟨v, hv, hi, hg⟩ := h.2 i l hl
  exact ⟨v, hv, own_below hi hb hg, hg⟩⟩
theorem RowsE.mono (h : RowsE w base G hs ll) (hG : G ≤ G') : RowsE w base G' hs ll := ⟨h.1, fun i l hl => by
  obtain ⟨v, hv, hi, hg⟩ := h.2 i l hl
  exact ⟨v, hv, hi, fun k hk => by have := hg k hk; omega⟩⟩
theorem RowsE.all (h : RowsE w base w.heap.size hs ll) (hb : Below w.heap.size w w') : RowsE w' base w'.heap.size hs ll := (h.below hb).mono hb.size
theorem RowsE.grown {base' e' size' n' : Nat} {v' : Value} {xs' : List Value} (h : RowsE w base G hs ll) (hown : w.ownsRow base' e' size' v' n' xs') (hne : 41 ≠ e') (hg : w.grownBy w' v'.ownBlock) : RowsE w' base G hs ll := ⟨h.1, fun i l hl => by
  obtain ⟨v, hv, hi, hG⟩ := h.2 i l hl
  exact ⟨v, hv, own_grown hi hg (own_ne hi hown hne), hG⟩⟩
theorem RowsE.snoc (h : RowsE w base G hs ll) (hi : w.ownsRow base 41 3 v l.length (flat encE l)) (hk : ∀ k, v.ownBlock = some k → k < G) : RowsE w base G (hs ++ [v]) (ll ++ [l]) := ⟨by simp [h.1], fun i x hl => by
  by_cases hlt : i < ll.length
  · rw [List.getElem?_append_left hlt] at hl
    obtain ⟨u, hu, hx⟩ := h.2 i x hl
    exact ⟨u, by rw [List.getElem?_append_left (by rw [h.1]; exact hlt)]; exact hu, hx⟩
  · have hlen : i < (ll ++ [l]).length := (List.getElem?_eq_some_iff.1 hl).1
    obtain rfl : i = ll.length := by simp at hlen; omega
    simp at hl
    subst hl
    exact ⟨v, by rw [← h.1]; simp, hi, hk⟩⟩
theorem own_cap {e size n : Nat} {A : Option Addr} {c : Nat} {xs : List Value} (h : w.ownsRow base e size (.slice A n c) n xs) : n ≤ c := by
  rcases h.2 with ⟨h1, h0⟩ | ⟨g, cap, cur, h1, _, _, hc, _⟩
  · injection h1 with _ h2 _
    omega
  · injection h1 with _ _ h3
    omega
theorem RowsE.gr (h : RowsE w base w.heap.size hs ll) : GrAt w w.heap.size hs ll := ⟨h.1, fun i l hl => by
  obtain ⟨v, hv, hi, hg⟩ := h.2 i l hl
  obtain ⟨A, c, rfl⟩ := own_slice hi
  exact ⟨A, c, hv, own_cap hi, SlAt.of_own' hi (Nat.le_refl _)⟩⟩
end
section
variable {w : World} {B n : Nat} {A : Option Addr} {l : List Ent}
theorem flat_take : ∀ (l : List Ent) (k : Nat), flat encE (l.take k) = (flat encE l).take (k * 3)
  | [], k => by simp [flat]
  | x :: l, 0 => by simp [flat]
  | x :: l, k + 1 => by
    rw [List.take_succ_cons, flat_cons, flat_cons, flat_take l k, show (k + 1) * 3 = (encE x).length + k * 3 by rw [encE_length]; omega, List.take_length_add_append]
theorem flat_drop : ∀ (l : List Ent) (k : Nat), flat encE (l.drop k) = (flat encE l).drop (k * 3)
  | [], k => by simp [flat]
  | x :: l, 0 => by simp
  | x :: l, k + 1 => by
    rw [List.drop_succ_cons, flat_cons, flat_drop l k, show (k + 1) * 3 = (encE x).length + k * 3 by rw [encE_length]; omega, List.drop_length_add_append]
theorem EnAt.take (h : EnAt w B A l) (k : Nat) : EnAt w B A (l.take k) := fun j u hu => by
  rw [flat_take, List.getElem?_take] at hu
  split at hu
  · exact h j u hu
  · cases hu
theorem EnAt.drop {b off : Nat} (h : EnAt w B (some ⟨b, off, none⟩) l) (k : Nat) : EnAt w B (some ⟨b, off + k * 3, none⟩) (l.drop k) := fun j u hu => by
  rw [flat_drop, List.getElem?_drop] at hu
  obtain ⟨b', off', e, hb, hc⟩ := h _ u hu
  injection e with e
  injection e with e1 e2 _
  subst e1 e2
  exact ⟨_, _, rfl, hb, by rw [Nat.add_assoc]; exact hc⟩
end

set_option maxHeartbeats 1000000 in
theorem front_any (A : Option Addr) (c : Nat) (l : List Ent) (r : Int) (w : World) (h : EnAt w w.heap.size A l) (hl : l.length ≤ 2000) (hc : l.length ≤ c) (hs : sizeL l ≤ 1000000) :
    Calls Try.prog 51 #[.slice A l.length c, .int .i64 r] w fun e w' => e = .returned (.int .i64 (frontN l r : Nat)) ∧ w = w' := by
  have HL := Lib.hid (frontN_lt l r)
  have CS : Hid (∀ k, k < l.length → Calls Try.prog 16 #[.slice A (k + 1) c] w fun e w' => e = .returned (.int .i64 (sizeL (l.take (k + 1)) : Nat)) ∧ w = w') := Lib.hid fun k hk => by
    have := rsize_any A c (l.take (k + 1)) w (h.take _) (by rw [List.length_take]; omega)
    rw [List.length_take, Nat.min_eq_left (by omega)] at this
    have h1 : sizeL (l.take (k + 1)) ≤ sizeL l := by
      rw [← List.take_append_drop (k + 1) l, sizeL_append]
      simp
    rwa [show wrap64 ((sizeL (l.take (k + 1)) : Nat) : Int) = ((sizeL (l.take (k + 1)) : Nat) : Int) from IntWalk.wrap64_in _ (by omega)] at this
  have HF := frontN_le l r
  obtain ⟨F, hF⟩ : ∃ F, frontN l r = F := ⟨_, rfl⟩
  rw [hF] at HL HF ⊢
  obtain ⟨n, hn⟩ : ∃ n, l.length = n := ⟨_, rfl⟩
  rw [hn] at hl hc HL HF CS ⊢
  clear h hn hF hs
  go_enter Try.func51, Try.ntmps51
  go_wp2_with fail
  go_loop [5] (fun i => ∃ k : Nat, k ≤ F ∧ i = .int .i64 k) (fun i => n - (intOf i).toNat)
  case atStart => exact ⟨0, by omega, rfl⟩
  case round =>
    obtain ⟨k, hk, rfl⟩ := hrel
    by_cases hlt : k < n
    · have hltI : (k : Int) < (n : Int) := by omega
      have C := Lib.hid (CS.out k hlt)
      have hkc : (k : Int) + 1 ≤ (c : Int) := by omega
      have HI := Lib.hid (HL.out k hk)
      obtain ⟨S, hS⟩ : ∃ S, sizeL (l.take (k + 1)) = S := ⟨_, rfl⟩
      rw [hS] at C HI
      clear hS
      by_cases hle : (S : Int) ≤ r
      · have hkF := HI.out.2 ⟨hlt, hle⟩
        go_wp2_with fail
        refine C.out.mono ?_
        rintro e w' ⟨rfl, rfl⟩
        go_wp2_with fail
        go_round
        case rel => exact ⟨k + 1, by omega, by go_num⟩
        case measure => simp [intOf]; omega
      · have hkF : k = F := by
          have := HI.out
          rcases Nat.lt_or_eq_of_le hk with h1 | h1
          · exact absurd (HI.out.1 h1).2 hle
          · exact h1
        subst hkF
        go_wp2_with fail
        refine C.out.mono ?_
        rintro e w' ⟨rfl, rfl⟩
        go_wp2_with fail
        go_ret
        exact ⟨rfl, rfl⟩
    · have hge : ¬ (k : Int) < (n : Int) := by omega
      obtain rfl : k = F := by omega
      go_wp2_with fail
      go_ret
      exact ⟨rfl, rfl⟩
end Go.Proofs.Ytnomodbcpndocaa
