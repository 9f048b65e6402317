/-
  Chapter 24: what the groups are like; the example (plain Lean).
-/
import Derived.Test.YtnomodbcpndocaaSuY
import Derived.Test.YtnomodbcpndocaaShelf
namespace Go.Proofs.Ytnomodbcpndocaa
open Go.RowKit
set_option linter.unusedVariables false

/-- What holds of the groups of l at room r. -/
theorem grF_ok : ∀ (f : Nat) (l : List Ent) (r : Int), (∀ x ∈ l, errE x = 0) → (r < sizeL l → 28 ≤ r) → 0 ≤ r → r ≤ 2048 → grM l.length r ≤ f →
    (grF f l r).flatten = l ∧ grF f l r ≠ [] ∧ ∃ g t, grF f l r = g :: t ∧ ((sizeL g : Nat) : Int) + (if t.length = 0 then 0 else 28) ≤ r ∧ (r < sizeL l → t ≠ []) ∧
      ∀ (k : Nat) x, (lenL t)[k]? = some x → 1 ≤ x ∧ x ≤ 2048
  | 0, l, r, he, h28, h0, h1, hf => by
    have hl : l = [] := List.eq_nil_of_length_eq_zero (by unfold grM at hf; omega)
    subst hl
    refine ⟨rfl, by simp [grF], [], [], rfl, ?_, ?_, ?_⟩
    · simp [sizeL_nil, h0]
    · intro h; simp [sizeL_nil] at h; omega
    · intro k x h; simp [lenL] at h
  | f + 1, l, r, he, h28, h0, h1, hf => by
    by_cases hle : (sizeL l : Int) ≤ r
    · rw [grF_end hle]
      refine ⟨by simp, by simp, l, [], rfl, by simp [hle], fun h => by omega, fun k x h => by simp [lenL] at h⟩
    · have hlt : r < (sizeL l : Int) := by omega
      have hr := h28 hlt
      have hF := frontN_short (l := l) (r := r - 28) (by omega) (by omega)
      have hp : r = 2048 → 0 < frontN l (r - 28) := fun h => frontN_pos (by omega) (by omega) he
      have hs := frontN_size l (r - 28) (by omega)
      rw [grF_more hle]
      generalize frontN l (r - 28) = F at *
      have hd : (l.drop F).length = l.length - F := List.length_drop
      obtain ⟨i1, i2, g, t, i3, i4, i5, i6⟩ := grF_ok f (l.drop F) 2048 (fun x hx => he x (List.mem_of_mem_drop hx)) (fun _ => by omega) (by omega) (by omega) (by
        unfold grM at hf ⊢
        rw [if_pos rfl, hd]
        split at hf
        · rename_i h2
          have := hp h2
          omega
        · omega)
      refine ⟨by rw [List.flatten_cons, i1, List.take_append_drop], by simp, l.take F, grF f (l.drop F) 2048, rfl, ?_, fun _ => i2, ?_⟩
      · rw [if_neg (by rw [i3]; simp)]
        omega
      · intro k x hx
        rw [i3] at hx i1
        cases k with
        | succ k => rw [lenL, List.getElem?_cons_succ] at hx; exact i6 k x hx
        | zero =>
          rw [lenL, List.getElem?_cons_zero] at hx
          injection hx with hx
          refine ⟨?_, by omega⟩
          by_cases ht : t.length = 0
          · rw [if_pos ht] at hx
            have ht0 : t = [] := List.eq_nil_of_length_eq_zero ht
            subst ht0
            have hg : g = l.drop F := by simpa using i1
            have := sizeL_ge g
            rw [hg, hd] at this
            rw [hg] at hx
            omega
          · rw [if_neg ht] at hx
            omega
/-- The groups, when there is no error. -/
theorem gr_ok {l : List Ent} {r : Int} (h : grE l r = 0) : grR l r = grL l r ∧ (grL l r).flatten = l ∧ 1 ≤ (grL l r).length ∧ (grL l r).length ≤ 64 ∧ (∀ x ∈ l, errE x = 0 ∧ x.sg ≠ ceS ∧ x.sg ≠ stS) ∧ l.length ≤ 1024 ∧
    (∀ x, (lenL (grL l r))[0]? = some x → x ≤ r) ∧ (∀ k x, (lenL (grL l r))[k + 1]? = some x → 1 ≤ x ∧ x ≤ 2048) := by
  have h0 := h
  unfold grE at h0
  by_cases hc : checkL l = 0
  · rw [if_pos hc] at h0
    obtain ⟨hn, he⟩ := check_ok hc
    by_cases hl : l.any linkE = true
    · rw [if_pos hl] at h0; cases h0
    · rw [if_neg hl] at h0
      by_cases hr : r < 0 ∨ 254 < r
      · rw [if_pos hr] at h0; cases h0
      · rw [if_neg hr] at h0
        by_cases hf : r < sizeL l ∧ r < 28
        · rw [if_pos hf] at h0; cases h0
        · rw [if_neg hf] at h0
          by_cases h64 : 64 < (grL l r).length
          · rw [if_pos h64] at h0; cases h0
          · obtain ⟨i1, i2, g, t, i3, i4, i5, i6⟩ := grF_ok (l.length + 1) l r he (fun h => by omega) (by omega) (by omega) (by unfold grM; split <;> omega)
            have e : grF (l.length + 1) l r = grL l r := rfl
            rw [e] at i1 i2 i3
            refine ⟨by unfold grR; rw [if_pos h], i1, ?_, by omega, fun x hx => ⟨he x hx, ?_⟩, hn, ?_, ?_⟩
            · cases hg : grL l r with
              | nil => exact absurd hg i2
              | cons a b => simp
            · have hno : linkE x = false := by
                cases hx2 : linkE x with
                | false => rfl
                | true => exact absurd (List.any_eq_true.2 ⟨x, hx, hx2⟩) hl
              unfold linkE at hno
              rw [Bool.or_eq_false_iff, decide_eq_false_iff_not, decide_eq_false_iff_not] at hno
              exact hno
            · intro x hx
              rw [i3, lenL, List.getElem?_cons_zero] at hx
              injection hx with hx
              omega
            · intro k x hx
              rw [i3, lenL, List.getElem?_cons_succ] at hx
              exact i6 k x hx
  · rw [if_neg hc] at h0
    exact absurd h0 hc
theorem gr_no {l : List Ent} {r : Int} (h : grE l r ≠ 0) : grR l r = [] := by unfold grR; rw [if_neg h]

/-! ### The example -/
def exX : Ent := ⟨⟨#[88, 88]⟩, 1, ⟨(List.replicate 96 120).toArray⟩⟩
def exL : List Ent := [exX, exX, exX]
theorem repeat_one (b : UInt8) (n : Nat) : Lib.repeatL [b] n = List.replicate n b := by
  induction n with
  | zero => rfl
  | succ n ih =>
    show [b] ++ Lib.repeatL [b] n = _
    rw [ih, List.replicate_succ]
    rfl
theorem ex_err : ∀ x ∈ exL, errE x = 0 := by
  intro x hx
  have : x = exX := by simpa [exL] using hx
  rw [this]
  decide +kernel
theorem ex_gr : grE exL 200 = 0 ∧ grR exL 200 = [[exX], [exX, exX]] := by
  have h1 : grL exL 200 = [[exX], [exX, exX]] := by rfl
  have h2 : grE exL 200 = 0 := by
    unfold grE
    rw [if_pos (check_mk (by decide) ex_err), if_neg (by decide +kernel), if_neg (by decide), if_neg (by decide +kernel), h1, if_neg (by decide)]
  exact ⟨h2, by unfold grR; rw [if_pos h2, h1]⟩
def exG : List (List Ent) := [[exX], [exX, exX]]
def exP : List Pl := [⟨1, 7⟩]
theorem ex_len : lenL exG = [128, 200] := by decide +kernel
theorem ex_join : joinE exG exP = 0 := by
  unfold joinE
  rw [if_neg (by decide)]
  refine jErr_go (jErr_go rfl ?_) ?_
  · unfold jE
    rw [if_pos (check_mk (by decide) (by intro x hx; exact ex_err x (by have : x = exX := by simpa [jG, exG] using hx
                                                                        rw [this]; simp [exL])))]
    rfl
  · unfold jE
    rw [if_pos (check_mk (by decide) (by intro x hx; exact ex_err x (by have : x = exX := by simpa [jG, exG] using hx
                                                                        rw [this]; simp [exL])))]
    decide +kernel
end Go.Proofs.Ytnomodbcpndocaa
