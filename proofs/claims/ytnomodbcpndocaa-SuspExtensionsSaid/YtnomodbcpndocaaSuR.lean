/-
  Chapter 24: Join in plain Lean; places in memory.
-/
import Derived.Test.YtnomodbcpndocaaSuQ
namespace Go.Proofs.Ytnomodbcpndocaa
open Go.RowKit
set_option linter.unusedVariables false

structure Pl where
  lba : Int
  off : Int
instance : Inhabited Pl := ⟨⟨0, 0⟩⟩
def encP (p : Pl) : List Value := [.int .i64 p.lba, .int .i64 p.off]
theorem encP_length (p : Pl) : (encP p).length = 2 := rfl
structure PlG (p : Pl) : Prop where
  lba : -9223372036854775808 ≤ p.lba ∧ p.lba < 9223372036854775808
  off : -9223372036854775808 ≤ p.off ∧ p.off < 9223372036854775808
def PlAt (w : World) (B : Nat) (A : Option Addr) (l : List Pl) : Prop := SlAt w B A (flat encP l)
section
variable {w w' : World} {B C : Nat} {A : Option Addr} {l : List Pl}
theorem PlAt.below (h : PlAt w B A l) (hb : Below B w w') : PlAt w' B A l := SlAt.below h hb
theorem PlAt.one (h : PlAt w B A l) (hp : 0 < l.length) : ∃ b off, A = some ⟨b, off, none⟩ ∧ b < B := by
  obtain ⟨b, off, hA, hb, _⟩ := SlAt.one h (by rw [flat_length encP_length]; omega)
  exact ⟨b, off, hA, hb⟩
theorem PlAt.cells (h : PlAt w B A l) {b off : Nat} (hA : A = some ⟨b, off, none⟩) {k : Nat} {x : Pl} (hk : l[k]? = some x) :
    w.cell? ⟨b, off + k * 2, none⟩ = some (.int .i64 x.lba) ∧ w.cell? ⟨b, off + k * 2 + 1, none⟩ = some (.int .i64 x.off) := by
  have c : ∀ j, j < 2 → ∀ u, (encP x)[j]? = some u → w.cell? ⟨b, off + (k * 2 + j), none⟩ = some u := fun j hj u hu => by
    obtain ⟨b', off', e, _, hc⟩ := h (k * 2 + j) u ((flat_get encP_length l k j x hk hj).trans hu)
    rw [hA] at e
    injection e with e
    injection e with e1 e2 _
    subst e1 e2
    exact hc
  refine ⟨c 0 (by omega) _ rfl, ?_⟩
  rw [Nat.add_assoc]; exact c 1 (by omega) _ rfl
end
section
variable (ll : List (List Ent)) (ps : List Pl)
def jG (k : Nat) : List Ent := ll[k]?.getD []
def jP (k : Nat) : Pl := ps[k]?.getD default
def jL (k : Nat) : Int := (lenL ll)[k]?.getD 0
/-- The link to group k. -/
def jX (k : Nat) : Ent := contX (jP ps (k - 1)).lba (jP ps (k - 1)).off (jL ll k)
def jS (k : Nat) : ByteArray := encS [jX ll ps k]
/-- The error of step k. -/
def jE (k : Nat) : Int := if checkL (jG ll k) = 0 then (if k = 0 then 0 else contE (jP ps (k - 1)).lba (jP ps (k - 1)).off (jL ll k)) else checkL (jG ll k)
/-- The first error of the steps below k. -/
def jErr : Nat → Int
  | 0 => 0
  | k + 1 => if jErr k = 0 then jE ll ps k else jErr k
/-- The strings behind k steps. -/
def jnK (k : Nat) : List ByteArray := (List.range k).map fun i => if i + 1 < k then encS (jG ll i) ++ jS ll ps (i + 1) else encS (jG ll i)
def joinE : Int := if ll.length = 0 ∨ ps.length + 1 ≠ ll.length then 1 else jErr ll ps ll.length
def joinR : List ByteArray := if joinE ll ps = 0 then jnK ll ps ll.length else []
end
section
variable {ll : List (List Ent)} {ps : List Pl}
theorem jnK_length (k : Nat) : (jnK ll ps k).length = k := by simp [jnK]
theorem jnK_get {k i : Nat} (h : i < k) : (jnK ll ps k)[i]? = some (if i + 1 < k then encS (jG ll i) ++ jS ll ps (i + 1) else encS (jG ll i)) := by
  unfold jnK
  rw [List.getElem?_map, List.getElem?_range h]
  rfl
theorem jnK_one : jnK ll ps 1 = [encS (jG ll 0)] := rfl
theorem jnK_last {k : Nat} (h : 0 < k) : (jnK ll ps k)[k - 1]? = some (encS (jG ll (k - 1))) := by rw [jnK_get (by omega), if_neg (by omega)]
theorem jnK_succ {k : Nat} (h : 0 < k) : jnK ll ps (k + 1) = (jnK ll ps k).set (k - 1) (encS (jG ll (k - 1)) ++ jS ll ps k) ++ [encS (jG ll k)] := by
  apply List.ext_getElem?
  intro i
  rcases Nat.lt_trichotomy i k with hi | hi | hi
  · rw [List.getElem?_append_left (by rw [List.length_set, jnK_length]; exact hi), jnK_get (by omega), if_pos (by omega), List.getElem?_set, jnK_length]
    by_cases he : k - 1 = i
    · subst he
      rw [if_pos rfl, if_pos hi, show k - 1 + 1 = k by omega]
    · rw [if_neg he, jnK_get hi, if_pos (by omega)]
  · subst hi
    rw [List.getElem?_append_right (by rw [List.length_set, jnK_length]; exact Nat.le_refl _), List.length_set, jnK_length, jnK_get (by omega), if_neg (by omega), Nat.sub_self]
    rfl
  · rw [List.getElem?_eq_none (by rw [jnK_length]; omega), List.getElem?_eq_none (by rw [List.length_append, List.length_set, jnK_length, List.length_singleton]; omega)]
theorem jErr_stop {k : Nat} {E : Int} (h0 : jErr ll ps k = 0) (hE : jE ll ps k = E) (hn : E ≠ 0) : ∀ m, k < m → jErr ll ps m = E
  | 0, h => by omega
  | m + 1, h => by
    show (if jErr ll ps m = 0 then jE ll ps m else jErr ll ps m) = E
    by_cases he : k = m
    · subst he
      rw [if_pos h0, hE]
    · have := jErr_stop h0 hE hn m (by omega)
      rw [if_neg (by rw [this]; exact hn), this]
theorem jErr_go {k : Nat} (h0 : jErr ll ps k = 0) (hE : jE ll ps k = 0) : jErr ll ps (k + 1) = 0 := by
  show (if jErr ll ps k = 0 then jE ll ps k else jErr ll ps k) = 0
  rw [if_pos h0, hE]
end
theorem encS_size (l : List Ent) : (encS l).size ≤ 262144 := by
  unfold encS
  split
  · rename_i h
    have hn : l.length ≤ 1024 := by
      unfold checkL at h
      split at h
      · cases h
      · omega
    have herr : errL l = 0 := by
      unfold checkL at h
      rwa [if_neg (by omega)] at h
    have h1 := errL_each herr
    have h2 := encB_length h1
    have h3 := sizeL_le h1
    show (encB l).length ≤ 262144
    omega
  · exact Nat.zero_le _
/-- What Join answers. -/
def JoinRes (ll : List (List Ent)) (ps : List Pl) (w : World) (e : Ending) (w' : World) : Prop :=
  Below w.heap.size w w' ∧ ∃ A c, e = .returned (.tuple #[.slice A (joinR ll ps).length c, .int .i64 (joinE ll ps)]) ∧ SlAt w' w'.heap.size A (strV (joinR ll ps))
theorem JoinRes.no {ll : List (List Ent)} {ps : List Pl} {E : Int} {w w' : World} (hE : joinE ll ps = E) (h0 : E ≠ 0) (hb : Below w.heap.size w w') : JoinRes ll ps w (.returned (.tuple #[.slice none 0 0, .int .i64 E])) w' := by
  have hr : joinR ll ps = [] := by unfold joinR; rw [if_neg (by rw [hE]; exact h0)]
  refine ⟨hb, none, 0, ?_, ?_⟩
  · rw [hr, hE]; rfl
  · rw [hr]; exact SlAt.nil _ _ _
theorem joinE_at {ll : List (List Ent)} {ps : List Pl} {k : Nat} {E : Int} (hk : k < ll.length) (hp : ps.length + 1 = ll.length) (h0 : jErr ll ps k = 0) (hE : jE ll ps k = E) (hn : E ≠ 0) : joinE ll ps = E := by
  unfold joinE
  rw [if_neg (by omega)]
  exact jErr_stop h0 hE hn _ hk
end Go.Proofs.Ytnomodbcpndocaa
