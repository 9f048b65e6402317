/-
  Decode in plain Lean: what is known behind some entries.
-/
import Derived.Test.YtjlppndlgdgekaaIter
namespace Go.Proofs.Ytjlppndlgdgekaa
set_option linter.unusedVariables false

def runL : List (List UInt8) → DSt → Int × List Img
  | [], _ => (10, [])
  | x :: r, st => match stepD st x with
    | .inl a => a
    | .inr st' => if endD st' then (0, st'.out) else runL r st'
def Goes (st : DSt) (l : List (List UInt8)) (st1 : DSt) : Prop := ∀ r, runL (l ++ r) st = runL r st1
theorem Goes.nil (st : DSt) : Goes st [] st := fun r => rfl
theorem Goes.run {st st1 : DSt} {l : List (List UInt8)} (h : Goes st l st1) : ∀ r, runL (l ++ r) st = runL r st1 := h
theorem Goes.snoc {st st1 st2 : DSt} {l : List (List UInt8)} {x : List UInt8} (h : Goes st l st1) (hx : stepD st1 x = .inr st2) (he : endD st2 = false) : Goes st (l ++ [x]) st2 := by
  intro r
  rw [List.append_assoc, h.run, List.cons_append, List.nil_append, runL, hx]
  dsimp only
  rw [he]
  rfl
theorem runD_list (s : List UInt8) : ∀ (n i : Nat) (st : DSt), runD s n i st = runL ((List.range' i n).map (entAt s)) st
  | 0, i, st => rfl
  | n + 1, i, st => by
    rw [runD, List.range'_succ, List.map_cons, runL]
    cases stepD st (entAt s i) with
    | inl r => rfl
    | inr st' =>
      dsimp only
      rw [runD_list s n (i + 1) st']

def byt (x : Ent) : List UInt8 := x.1.data.toList
theorem byt_length (x : Ent) : (byt x).length = 32 := by
  have := x.2
  simpa [byt] using this
theorem ents_byt {s : ByteArray} (hs : s.size = 2048) : (ents s).map byt = (List.range 64).map (entAt s.data.toList) := by
  unfold ents
  rw [List.map_map]
  apply List.map_congr_left
  intro i hi
  exact entS_list hs (List.mem_range.1 hi)
theorem ents_split {s : ByteArray} (hs : s.size = 2048) {e0 : Ent} {rest : List Ent} (h : (e0 :: rest) <+: ents s) : entAt s.data.toList 0 = byt e0 ∧ ∃ t, (List.range' 1 63).map (entAt s.data.toList) = rest.map byt ++ t := by
  obtain ⟨t, ht⟩ := h
  have h1 := ents_byt hs
  rw [← ht] at h1
  rw [List.range_eq_range', show (64 : Nat) = 63 + 1 by rfl, List.range'_succ, List.map_cons] at h1
  simp only [List.cons_append, List.map_cons, List.map_append] at h1
  injection h1 with h2 h3
  exact ⟨h2.symm, t.map byt, h3.symm⟩
/-- The answer of each block that begins with these entries. -/
def DecA (pre : List Ent) (r : Int × List Img) : Prop := ∀ s : ByteArray, s.size = 2048 → pre <+: ents s → decR s.data.toList = r
def st0 (e0 : Ent) : DSt := ⟨byteL (byt e0) 1, 1, true, 0, []⟩
theorem decR_eq {s : ByteArray} (hs : s.size = 2048) {e0 : Ent} {rest : List Ent} (h : (e0 :: rest) <+: ents s) :
    ∃ t, decR s.data.toList = if keyOk (byt e0) then (if platB (byteL (byt e0) 1) then runL (rest.map byt ++ t) (st0 e0) else (14, [])) else (10, []) := by
  obtain ⟨h1, t, h2⟩ := ents_split hs h
  refine ⟨t, ?_⟩
  unfold decR
  rw [if_neg (by simp; omega), h1, runD_list, h2]
  rfl
theorem ans_key {e0 : Ent} (h : keyOk (byt e0) = false) : DecA [e0] (10, []) := fun s hs hp => by
  obtain ⟨t, ht⟩ := decR_eq hs hp
  rw [ht, h]
  rfl
theorem ans_plat {e0 : Ent} (h : keyOk (byt e0) = true) (h' : platB (byteL (byt e0) 1) = false) : DecA [e0] (14, []) := fun s hs hp => by
  obtain ⟨t, ht⟩ := decR_eq hs hp
  rw [ht, h, h']
  rfl
/-- What is known behind the entries pre, none of which gave an answer. -/
def DecI (pre : List Ent) (fi : Bool) (st : DSt) : Prop :=
  (pre = [] ∧ fi = true ∧ st = ⟨0, 1, true, 0, []⟩) ∨
  (∃ e0 rest, pre = e0 :: rest ∧ fi = false ∧ keyOk (byt e0) = true ∧ platB (byteL (byt e0) 1) = true ∧ Goes (st0 e0) (rest.map byt) st)
theorem DecI.first {e0 : Ent} (h : keyOk (byt e0) = true) (h' : platB (byteL (byt e0) 1) = true) : DecI [e0] false (st0 e0) := .inr ⟨e0, [], rfl, rfl, h, h', .nil _⟩
theorem DecI.next {pre : List Ent} {st st' : DSt} {x : Ent} (h : DecI pre false st) (hx : stepD st (byt x) = .inr st') (he : endD st' = false) : DecI (pre ++ [x]) false st' := by
  rcases h with ⟨_, h, _⟩ | ⟨e0, rest, rfl, _, h1, h2, h3⟩
  · cases h
  · refine .inr ⟨e0, rest ++ [x], by simp, rfl, h1, h2, ?_⟩
    rw [List.map_append]
    exact h3.snoc hx he
theorem DecI.ans {pre : List Ent} {st : DSt} {x : Ent} {r : Int × List Img} (h : DecI pre false st) (hx : stepD st (byt x) = .inl r) : DecA (pre ++ [x]) r := fun s hs hp => by
  rcases h with ⟨_, h, _⟩ | ⟨e0, rest, rfl, _, h1, h2, h3⟩
  · cases h
  · rw [List.cons_append] at hp
    obtain ⟨t, ht⟩ := decR_eq hs hp
    rw [ht, if_pos h1, if_pos h2, List.map_append, List.append_assoc, h3.run, List.map_cons, List.map_nil, List.cons_append, List.nil_append, runL, hx]
theorem DecI.fin {pre : List Ent} {st st' : DSt} {x : Ent} (h : DecI pre false st) (hx : stepD st (byt x) = .inr st') (he : endD st' = true) : DecA (pre ++ [x]) (0, st'.out) := fun s hs hp => by
  rcases h with ⟨_, h, _⟩ | ⟨e0, rest, rfl, _, h1, h2, h3⟩
  · cases h
  · rw [List.cons_append] at hp
    obtain ⟨t, ht⟩ := decR_eq hs hp
    rw [ht, if_pos h1, if_pos h2, List.map_append, List.append_assoc, h3.run, List.map_cons, List.map_nil, List.cons_append, List.nil_append, runL, hx]
    dsimp only
    rw [he]
    rfl
theorem DecI.done {s : ByteArray} {fi : Bool} {st : DSt} (hs : s.size = 2048) (h : DecI (ents s) fi st) : decR s.data.toList = (10, []) := by
  rcases h with ⟨h, _⟩ | ⟨e0, rest, h0, _, h1, h2, h3⟩
  · have := ents_length s
    rw [h] at this
    cases this
  · have hp : (e0 :: rest) <+: ents s := by rw [h0]; exact List.prefix_refl _
    obtain ⟨h4, t, h5⟩ := ents_split hs hp
    have hl : rest.length = 63 := by
      have := ents_length s
      rw [h0] at this
      simpa using this
    have ht : t = [] := by
      have := congrArg List.length h5
      simp [hl] at this
      exact this
    unfold decR
    rw [if_neg (by simp; omega), h4, if_pos h1, if_pos h2, runD_list, h5, ht]
    have := h3.run []
    exact this

/-! ### One entry, by its cases -/
section
variable {st : DSt} {x : List UInt8}
theorem step_bad1 (h : 0 < st.left) (h0 : byteL x 0 ≠ 136) (h1 : byteL x 0 ≠ 0) : stepD st x = .inl (10, []) := by
  unfold stepD
  rw [if_pos h, if_pos ⟨h0, h1⟩]
theorem step_bad2 (h : 0 < st.left) (h0 : byteL x 0 = 136 ∨ byteL x 0 = 0) (h1 : 4 < byteL x 1) : stepD st x = .inl (14, []) := by
  unfold stepD
  rw [if_pos h, if_neg (by omega), if_pos h1]
theorem step_img (h : 0 < st.left) (h0 : byteL x 0 = 136 ∨ byteL x 0 = 0) (h1 : byteL x 1 ≤ 4) : stepD st x = .inr ⟨st.plat, st.left - 1, st.more, st.heads, st.out ++ [imgOf st.plat x]⟩ := by
  unfold stepD
  rw [if_pos h, if_neg (by omega), if_neg (by omega)]
theorem step_none (h : ¬ 0 < st.left) (h0 : byteL x 0 = 0) (h1 : st.heads = 0) : stepD st x = .inl (0, st.out) := by
  unfold stepD
  rw [if_neg h, if_pos ⟨h0, h1⟩]
theorem step_bad3 (h : ¬ 0 < st.left) (h0 : ¬ (byteL x 0 = 0 ∧ st.heads = 0)) (h1 : byteL x 0 ≠ 144) (h2 : byteL x 0 ≠ 145) : stepD st x = .inl (10, []) := by
  unfold stepD
  rw [if_neg h, if_neg h0, if_pos ⟨h1, h2⟩]
theorem step_bad4 (h : ¬ 0 < st.left) (h1 : byteL x 0 = 144 ∨ byteL x 0 = 145) (h2 : platB (byteL x 1) = false) : stepD st x = .inl (14, []) := by
  unfold stepD
  rw [if_neg h, if_neg (by omega), if_neg (by omega), h2]
  rfl
theorem step_hdr (h : ¬ 0 < st.left) (h1 : byteL x 0 = 144 ∨ byteL x 0 = 145) (h2 : platB (byteL x 1) = true) : stepD st x = .inr ⟨byteL x 1, rdL x 2 2, byteL x 0 == 144, st.heads + 1, st.out⟩ := by
  unfold stepD
  rw [if_neg h, if_neg (by omega), if_neg (by omega), if_pos h2]
end
theorem rdL_bd (x : List UInt8) (a z : Nat) (h : z ≤ 4) : 0 ≤ rdL x a z ∧ rdL x a z ≤ 4294967295 := by
  unfold rdL
  rw [numL_valN]
  have h1 := valN_lt ((x.drop a).take z)
  have h2 : ((x.drop a).take z).length ≤ 4 := by rw [List.length_take]; omega
  have : 256 ^ ((x.drop a).take z).length ≤ 256 ^ 4 := Nat.pow_le_pow_right (by omega) h2
  omega
theorem rdL_bd2 (x : List UInt8) (a : Nat) : 0 ≤ rdL x a 2 ∧ rdL x a 2 ≤ 65535 := by
  unfold rdL
  rw [numL_valN]
  have h1 := valN_lt ((x.drop a).take 2)
  have h2 : ((x.drop a).take 2).length ≤ 2 := by rw [List.length_take]; omega
  have : 256 ^ ((x.drop a).take 2).length ≤ 256 ^ 2 := Nat.pow_le_pow_right (by omega) h2
  omega
theorem byteL_get (s : ByteArray) (i : Nat) (h : i < s.size) : byteL s.data.toList i = (s[i].toNat : Int) := by
  unfold byteL
  rw [bytes_get s i h]
  rfl
end Go.Proofs.Ytjlppndlgdgekaa
