/-
  Chapter 52: what holds of a writer at all times, in plain Lean; Flush whatever its argument is.
-/
import Derived.Test.YtdmdfpdigoijoaaPwT1
namespace Go.Proofs.Ytdmdfpdigoijoaa
open Go.RowKit
set_option linter.unusedVariables false

theorem usB_iff {s l : Int} : usB s l = true ↔ 0 ≤ s ∧ s ≤ l ∧ (l - s) % 8 ≠ 7 := by
  unfold usB
  simp only [Bool.and_eq_true, decide_eq_true_eq, Bool.not_eq_true', decide_eq_false_iff_not, ne_eq]
/-- What assign returns. -/
theorem asgR_spec {st : Int} {n : Nat} : ∀ (f : Nat) (k : Int) (out R : List Int), asgR st n f k out = some R → out.length ≤ n →
    R.length = n ∧ ∃ new, R = out ++ new ∧ (∀ x ∈ new, k ≤ x ∧ usB st x = true ∧ x - (x - st) % 8 + 8 ≤ 4096) ∧ new.Pairwise (· < ·)
  | 0, k, out, R, h, _ => by cases h
  | f + 1, k, out, R, h, hl => by
    rw [asgR] at h
    by_cases h1 : n ≤ out.length
    · rw [if_pos h1] at h
      injection h with h
      subst h
      exact ⟨by omega, [], by simp, fun x hx => (List.not_mem_nil hx).elim, List.Pairwise.nil⟩
    · rw [if_neg h1] at h
      by_cases h2 : 4096 < k - (k - st) % 8 + 8
      · rw [if_pos h2] at h; cases h
      · rw [if_neg h2] at h
        cases hu : usB st k with
        | true =>
          rw [hu, if_pos rfl] at h
          obtain ⟨r1, new, r2, r3, r4⟩ := asgR_spec f (k + 1) (out ++ [k]) R h (by rw [List.length_append, List.length_singleton]; omega)
          refine ⟨r1, k :: new, by rw [r2]; simp, ?_, ?_⟩
          · intro x hx
            rcases List.mem_cons.1 hx with rfl | hx
            · exact ⟨Int.le_refl _, hu, by omega⟩
            · have := r3 x hx
              exact ⟨by omega, this.2⟩
          · exact List.Pairwise.cons (fun x hx => by have := (r3 x hx).1; omega) r4
        | false =>
          rw [hu, if_neg (by simp)] at h
          obtain ⟨r1, new, r2, r3, r4⟩ := asgR_spec f (k + 1) out R h hl
          exact ⟨r1, new, r2, fun x hx => by have := r3 x hx; exact ⟨by omega, this.2⟩, r4⟩
theorem asgL_spec {st ba : Int} {l : List Pend} {n : Nat} {R : List Int} (h : asgL st ba l n = some R) : R.length = n ∧ (∀ x ∈ R, nextL ba l ≤ x ∧ usB st x = true ∧ x - (x - st) % 8 + 8 ≤ 4096) ∧ R.Pairwise (· < ·) := by
  unfold asgL at h
  obtain ⟨r1, new, r2, r3, r4⟩ := asgR_spec _ _ _ _ h (Nat.zero_le _)
  rw [List.nil_append] at r2
  subst r2
  exact ⟨r1, r3, r4⟩
/-- There is room. -/
theorem asgR_room {st : Int} {n : Nat} (hst : 0 ≤ st) : ∀ (f : Nat) (k : Int) (out : List Int) (u : Nat), st ≤ k → (if usB st k then 0 else 1) ≤ u → out.length ≤ n → 2 * (n - out.length) + u + 1 ≤ f → k + 2 * (n - out.length : Nat) + u + 8 ≤ 4096 →
    ∃ R, asgR st n f k out = some R ∧ ∀ x ∈ R, x ∈ out ∨ x < k + 2 * (n - out.length : Nat) + u
  | 0, k, out, u, _, _, _, hf, _ => by omega
  | f + 1, k, out, u, hk, hu, hl, hf, hb => by
    rw [asgR]
    by_cases h1 : n ≤ out.length
    · exact ⟨out, by rw [if_pos h1], fun x hx => .inl hx⟩
    · have h2 : ¬ 4096 < k - (k - st) % 8 + 8 := by omega
      rw [if_neg h1, if_neg h2]
      cases hus : usB st k with
      | true =>
        rw [if_pos rfl]
        obtain ⟨R, hR, hx⟩ := asgR_room (n := n) hst f (k + 1) (out ++ [k]) 1 (by omega) (by split <;> omega) (by rw [List.length_append, List.length_singleton]; omega) (by rw [List.length_append, List.length_singleton]; omega) (by rw [List.length_append, List.length_singleton]; omega)
        refine ⟨R, hR, fun x hx' => ?_⟩
        rcases hx x hx' with h | h
        · rcases List.mem_append.1 h with h | h
          · exact .inl h
          · obtain rfl := List.mem_singleton.1 h
            right
            omega
        · right
          rw [List.length_append, List.length_singleton] at h
          omega
      | false =>
        rw [hus, if_neg (by simp)] at hu
        have hus2 : usB st (k + 1) = true := usB_iff.2 ⟨hst, by omega, by
          have h3 : ¬ (0 ≤ st ∧ st ≤ k ∧ (k - st) % 8 ≠ 7) := fun h => by rw [usB_iff.2 h] at hus; cases hus
          have h4 : (k - st) % 8 = 7 := by
            rcases Int.decEq ((k - st) % 8) 7 with h | h
            · exact absurd ⟨hst, hk, h⟩ h3
            · exact h
          omega⟩
        rw [if_neg (by simp)]
        obtain ⟨R, hR, hx⟩ := asgR_room (n := n) hst f (k + 1) out (u - 1) (by omega) (by rw [hus2, if_pos rfl]; omega) hl (by omega) (by omega)
        refine ⟨R, hR, fun x hx' => ?_⟩
        rcases hx x hx' with h | h
        · exact .inl h
        · right; omega
theorem asgL_room {st ba : Int} {l : List Pend} {n : Nat} (hst : 0 ≤ st) (hk : st ≤ nextL ba l) (hn : n ≤ 2000) (hb : nextL ba l + 2 * n + 9 ≤ 4096) : ∃ R, asgL st ba l n = some R ∧ ∀ x ∈ R, x ≤ nextL ba l + 2 * n := by
  obtain ⟨R, hR, hx⟩ := asgR_room (n := n) hst 5000 (nextL ba l) [] 1 hk (by split <;> omega) (Nat.zero_le _) (by simp; omega) (by simp; omega)
  refine ⟨R, hR, fun x hx' => ?_⟩
  rcases hx x hx' with h | h
  · exact (List.not_mem_nil h).elim
  · simp at h; omega

/-- What holds of a writer at all times. -/
structure Wok (st ba : Int) (l : List Pend) : Prop where
  st0 : 0 ≤ st
  stba : st ≤ ba
  b8 : (ba - st) % 8 = 0
  ba4 : ba ≤ 4096
  inc : (l.map (·.lba)).Pairwise (· < ·)
  each : ∀ x ∈ l, ba ≤ x.lba ∧ usB st x.lba = true ∧ x.lba - (x.lba - st) % 8 + 8 ≤ 4096
  blk : ∀ x ∈ l, x.blk.toList = [] ∨ blkOk x.blk = true
theorem inc_len : ∀ (l : List Int) (a b : Int), l.Pairwise (· < ·) → (∀ x ∈ l, a ≤ x ∧ x < b) → a ≤ b → (l.length : Int) ≤ b - a
  | [], a, b, _, _, h => by simp; omega
  | x :: t, a, b, hp, hx, h => by
    obtain ⟨h1, h2⟩ := List.pairwise_cons.1 hp
    have h3 := hx x List.mem_cons_self
    have := inc_len t (x + 1) b h2 (fun y hy => ⟨by have := h1 y hy; omega, (hx y (List.mem_cons_of_mem _ hy)).2⟩) (by omega)
    rw [List.length_cons]
    omega
section
variable {st ba : Int} {l : List Pend}
theorem Wok.len (h : Wok st ba l) : l.length ≤ 4096 := by
  have := inc_len (l.map (·.lba)) 0 4096 h.inc (fun x hx => by
    obtain ⟨y, hy, rfl⟩ := List.mem_map.1 hx
    have := h.each y hy
    have := h.st0
    have := h.stba
    exact ⟨by omega, by omega⟩) (by omega)
  rw [List.length_map] at this
  omega
theorem last_mem {x : Pend} (h : l.getLast? = some x) : x ∈ l := List.mem_of_getLast? h
/-- Each address is at most the last one. -/
theorem Wok.le_last (h : Wok st ba l) : ∀ x ∈ l, x.lba ≤ lastL ba l := by
  intro x hx
  obtain ⟨i, hi, rfl⟩ := List.mem_iff_getElem.1 hx
  have hlast : l.getLast? = some l[l.length - 1] := by rw [List.getLast?_eq_getElem?]; exact List.getElem?_eq_getElem (by omega)
  unfold lastL
  rw [hlast]
  dsimp only
  by_cases he : i = l.length - 1
  · subst he; exact Int.le_refl _
  · have := List.pairwise_iff_getElem.1 h.inc i (l.length - 1) (by rw [List.length_map]; omega) (by rw [List.length_map]; omega) (by omega)
    rw [List.getElem_map, List.getElem_map] at this
    omega
theorem Wok.last (h : Wok st ba l) : ba ≤ lastL ba l ∧ (l ≠ [] → lastL ba l - (lastL ba l - st) % 8 + 8 ≤ 4096) ∧ lastL ba l ≤ 4096 := by
  unfold lastL
  cases hq : l.getLast? with
  | none =>
    have := List.getLast?_eq_none_iff.1 hq
    exact ⟨Int.le_refl _, fun hn => absurd this hn, h.ba4⟩
  | some x =>
    have := h.each x (last_mem hq)
    dsimp only
    have := h.st0
    exact ⟨by omega, fun _ => by omega, by omega⟩
theorem Wok.next (h : Wok st ba l) : st ≤ nextL ba l ∧ nextL ba l ≤ 4096 ∧ lastL ba l ≤ nextL ba l := by
  unfold nextL lastL
  cases hq : l.getLast? with
  | none => exact ⟨h.stba, h.ba4, Int.le_refl _⟩
  | some x =>
    have := h.each x (last_mem hq)
    have := h.st0
    have := h.stba
    have hu := usB_iff.1 (h.each x (last_mem hq)).2.1
    dsimp only
    exact ⟨by omega, by omega, by omega⟩
theorem Wok.ctl (h : Wok st ba l) : ba ≤ ctlL st ba l ∧ (ctlL st ba l + 1 - st) % 8 = 0 ∧ lastL ba l ≤ ctlL st ba l ∧ ctlL st ba l ≤ 4103 ∧ (l ≠ [] → ctlL st ba l + 1 ≤ 4096) := by
  have h1 := h.last
  have := h.stba
  unfold ctlL
  exact ⟨by omega, by omega, by omega, by omega, fun hn => by have := h1.2.1 hn; omega⟩
theorem Wok.new {s n : Int} (h : newE s n = 0) : Wok s (baseOf s n) [] := by
  have h1 : ¬ (s < 0 ∨ n < s ∨ 4096 < n) := fun c => by unfold newE at h; rw [if_pos c] at h; cases h
  have h2 : ¬ 4096 < baseOf s n + 8 := fun c => by unfold newE at h; rw [if_neg h1, if_pos c] at h; cases h
  unfold baseOf at h2 ⊢
  exact ⟨by omega, by omega, by omega, by omega, List.Pairwise.nil, fun x hx => (List.not_mem_nil hx).elim, fun x hx => (List.not_mem_nil hx).elim⟩
/-- Addresses are added. -/
theorem Wok.more (h : Wok st ba l) {n : Nat} {out : List Int} {bl : List ByteArray} (hs : asgL st ba l n = some out) (hb : ∀ i, i < out.length → (bl[i]?.getD blankS).toList = [] ∨ blkOk (bl[i]?.getD blankS) = true) : Wok st ba (moreP l out bl out.length) := by
  obtain ⟨h1, h2, h3⟩ := asgL_spec hs
  have hmap : (moreP l out bl out.length).map (·.lba) = l.map (·.lba) ++ out := by
    unfold moreP
    rw [List.map_append, List.map_map]
    congr 1
    apply List.ext_getElem
    · simp
    · intro i hi _
      simp at hi
      simp [hi]
  have hmem : ∀ x ∈ moreP l out bl out.length, x ∈ l ∨ ∃ i, i < out.length ∧ x.lba ∈ out ∧ x.blk = bl[i]?.getD blankS := by
    intro x hx
    unfold moreP at hx
    rcases List.mem_append.1 hx with hx | hx
    · exact .inl hx
    · obtain ⟨i, hi, rfl⟩ := List.mem_map.1 hx
      have hi := List.mem_range.1 hi
      right
      refine ⟨i, hi, ?_, rfl⟩
      dsimp only
      rw [List.getElem?_eq_getElem hi, Option.getD_some]
      exact List.getElem_mem hi
  have hn := h.next
  refine ⟨h.st0, h.stba, h.b8, h.ba4, ?_, ?_, ?_⟩
  · rw [hmap, List.pairwise_append]
    refine ⟨h.inc, h3, fun x hx y hy => ?_⟩
    obtain ⟨z, hz, rfl⟩ := List.mem_map.1 hx
    have h4 := h.le_last z hz
    have h5 := (h2 y hy).1
    have h6 : lastL ba l < nextL ba l := by
      unfold lastL nextL
      cases hq : l.getLast? with
      | none => have := List.getLast?_eq_none_iff.1 hq; rw [this] at hz; exact (List.not_mem_nil hz).elim
      | some x => dsimp only; omega
    omega
  · intro x hx
    rcases hmem x hx with hx | ⟨i, hi, hx, _⟩
    · exact h.each x hx
    · have h4 := h2 _ hx
      have := h.last.1
      exact ⟨by omega, h4.2⟩
  · intro x hx
    rcases hmem x hx with hx | ⟨i, hi, _, hx⟩
    · exact h.blk x hx
    · rw [hx]; exact hb i hi
theorem Wok.flushed (h : Wok st ba l) (hE : ctlL st ba l + 1 ≤ 4096) : Wok st (ctlL st ba l + 1) [] := by
  have := h.ctl
  have := h.stba
  exact ⟨h.st0, by omega, by omega, hE, List.Pairwise.nil, fun x hx => (List.not_mem_nil hx).elim, fun x hx => (List.not_mem_nil hx).elim⟩
end
/-- What Flush answers. -/
def FlushAll (g : Nat) (st ba : Int) (l : List Pend) (ctl : ByteArray) (w : World) (e : Ending) (w' : World) : Prop :=
  ((flE st ba l ctl ≠ 0 ∨ (l = [] ∧ ctl.toList = [])) ∧ e = .returned (.tuple #[.slice none 0 0, .int .i64 (flE st ba l ctl)]) ∧ Below w.heap.size w w') ∨
  (flE st ba l ctl = 0 ∧ ¬ (l = [] ∧ ctl.toList = []) ∧ ctlL st ba l + 1 ≤ 4096 ∧ openL l = [] ∧ FlushRes g st ba l ctl w e w')
theorem flush_any (base0 g : Nat) (st ba : Int) (l : List Pend) (ctl : ByteArray) (w : World) (h : WtAt w base0 g st ba l) (hk : Wok st ba l) :
    Calls Try.prog 27 #[.pointer (some ⟨g, 0, none⟩), .string ctl] w (FlushAll g st ba l ctl w) := by
  have hl := hk.len
  have hla := hk.last
  have h1 : st ≤ lastL ba l := by have := hk.stba; omega
  by_cases hc : ctl.toList ≠ [] ∧ ctl.size ≠ 2048
  · refine (flush_arg base0 g st ba l ctl w h (by omega) hk.st0 h1 (by omega) hc.1 hc.2).mono fun e w' ⟨he, hb⟩ => .inl ⟨.inl ?_, ?_, hb⟩
    · unfold flE; rw [if_pos hc]; decide
    · rw [he]; unfold flE; rw [if_pos hc]
  · have hc2 : ctl.toList = [] ∨ (ctl.toList ≠ [] ∧ ctl.size = 2048) := by
      by_cases h3 : ctl.toList = []
      · exact .inl h3
      · right
        refine ⟨h3, ?_⟩
        by_cases h4 : ctl.size = 2048
        · exact h4
        · exact absurd ⟨h3, h4⟩ hc
    by_cases ho : openL l = []
    · by_cases h0 : l = [] ∧ ctl.toList = []
      · refine (flush_none base0 g st ba l ctl w h (by omega) hk.st0 h1 (by omega) h0.2 h0.1 ho).mono fun e w' ⟨he, hb⟩ => .inl ⟨.inr h0, ?_, hb⟩
        rw [he]; unfold flE; rw [if_neg hc, if_neg (by simp [ho]), if_pos h0]
      · by_cases hf : 4096 < ctlL st ba l + 1
        · refine (flush_full base0 g st ba l ctl w h (by omega) hk.st0 h1 (by omega) hc2 ho h0 hf).mono fun e w' ⟨he, hb⟩ => .inl ⟨.inl ?_, ?_, hb⟩
          · unfold flE; rw [if_neg hc, if_neg (by simp [ho]), if_neg h0, if_pos hf]; decide
          · rw [he]; unfold flE; rw [if_neg hc, if_neg (by simp [ho]), if_neg h0, if_pos hf]
        · have hct := hk.ctl
          have := hk.st0
          have := hk.stba
          refine (flush_go base0 g st ba l ctl w h (by omega) hk.st0 h1 (by omega) hc2 ho h0 (by omega) (by omega) (fun x hx => ⟨(hk.each x hx).1, by have := hk.le_last x hx; omega⟩) hct.1 hk.b8).mono fun e w' hr => .inr ⟨?_, h0, by omega, ho, hr⟩
          unfold flE; rw [if_neg hc, if_neg (by simp [ho]), if_neg h0, if_neg hf]
    · refine (flush_state base0 g st ba l ctl w h (by omega) hk.st0 h1 (by omega) hc2 ho).mono fun e w' ⟨he, hb⟩ => .inl ⟨.inl ?_, ?_, hb⟩
      · unfold flE; rw [if_neg hc, if_pos ho]; decide
      · rw [he]; unfold flE; rw [if_neg hc, if_pos ho]
end Go.Proofs.Ytdmdfpdigoijoaa
