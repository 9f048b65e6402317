/-
  Chapter 24: Walk in plain mathematics.
-/
import Derived.Test.YtnomodbcpndocaaSuT
import Derived.Test.YtnomodbcpndocaaRange
namespace Go.Proofs.Ytnomodbcpndocaa
open Go.RowKit
set_option linter.unusedVariables false

def ceB (x : Ent) : Bool := decide (x.sg = ceS)
def nonCE (l : List Ent) : List Ent := l.filter fun x => !ceB x
/-- The index below k of the last entry CE. -/
def lastI (l : List Ent) : Nat → Option Nat
  | 0 => none
  | k + 1 => if (l[k]?.getD default).sg = ceS then some k else lastI l k
theorem lastI_lt {l : List Ent} : ∀ {k i : Nat}, lastI l k = some i → i < k
  | k + 1, i, h => by
    unfold lastI at h
    split at h
    · injection h with h; omega
    · have := lastI_lt h; omega
theorem nonCE_take {l : List Ent} {k : Nat} {x : Ent} (hk : l[k]? = some x) : nonCE (l.take (k + 1)) = nonCE (l.take k) ++ (if x.sg = ceS then [] else [x]) := by
  unfold nonCE
  rw [List.take_add_one, hk, Option.toList_some, List.filter_append]
  congr 1
  unfold ceB
  by_cases h : x.sg = ceS <;> simp [h]
theorem nonCE_le (l : List Ent) : (nonCE l).length ≤ l.length := List.length_filter_le _ _
def plcV (d : ByteArray) (i : Nat) : Int := rV d.size ((8 * i : Nat) : Int) 4 (nLe d ((8 * i : Nat) : Int) 4)
def badA (d : ByteArray) : Bool := decide (d.size ≠ 24) || !areaB (plcV d 1) (plcV d 2)
def hasBlk (img : List ByteArray) (a : Int) : Bool := decide (0 ≤ a) && decide (a < img.length) && decide ((img[a.toNat]?.getD ⟨#[]⟩).size = 2048)
def nextS (img : List ByteArray) (d : ByteArray) : ByteArray := (img[(plcV d 0).toNat]?.getD ⟨#[]⟩).extract (plcV d 1).toNat ((plcV d 1).toNat + (plcV d 2).toNat)
def lnkD (l : List Ent) (i : Nat) : ByteArray := (l[i]?.getD default).d
/-- The lists that are yielded, the block and the error at the end. -/
def wlk (img : List ByteArray) : Nat → ByteArray → Int → List (List Ent) × Int × Int
  | 0, _, a => ([], a, 0)
  | f + 1, use, a =>
    if decE use = 0 then
      match lastI (decL use) (decL use).length with
      | none => ([nonCE (decL use)], a, 0)
      | some i =>
        if badA (lnkD (decL use) i) then ([nonCE (decL use)], a, 10)
        else if f = 0 then ([nonCE (decL use)], plcV (lnkD (decL use) i) 0, 13)
        else if hasBlk img (plcV (lnkD (decL use) i) 0) then
          (nonCE (decL use) :: (wlk img f (nextS img (lnkD (decL use) i)) (plcV (lnkD (decL use) i) 0)).1, (wlk img f (nextS img (lnkD (decL use) i)) (plcV (lnkD (decL use) i) 0)).2)
        else ([nonCE (decL use)], plcV (lnkD (decL use) i) 0, 9)
    else ([], a, decE use)
section
variable {img : List ByteArray} {f i : Nat} {use : ByteArray} {a : Int}
theorem wlk_bad (h : decE use ≠ 0) : wlk img (f + 1) use a = ([], a, decE use) := by rw [wlk, if_neg h]
theorem wlk_end (h : decE use = 0) (hl : lastI (decL use) (decL use).length = none) : wlk img (f + 1) use a = ([nonCE (decL use)], a, 0) := by rw [wlk, if_pos h, hl]
theorem wlk_area (h : decE use = 0) (hl : lastI (decL use) (decL use).length = some i) (hb : badA (lnkD (decL use) i) = true) : wlk img (f + 1) use a = ([nonCE (decL use)], a, 10) := by rw [wlk, if_pos h, hl]; simp only [hb, if_true]
theorem wlk_loop (h : decE use = 0) (hl : lastI (decL use) (decL use).length = some i) (hb : badA (lnkD (decL use) i) = false) : wlk img (0 + 1) use a = ([nonCE (decL use)], plcV (lnkD (decL use) i) 0, 13) := by rw [wlk, if_pos h, hl]; simp [hb]
theorem wlk_lost (h : decE use = 0) (hl : lastI (decL use) (decL use).length = some i) (hb : badA (lnkD (decL use) i) = false) (hf : f ≠ 0) (hk : hasBlk img (plcV (lnkD (decL use) i) 0) = false) : wlk img (f + 1) use a = ([nonCE (decL use)], plcV (lnkD (decL use) i) 0, 9) := by
  rw [wlk, if_pos h, hl]; simp [hb, hf, hk]
theorem wlk_go (h : decE use = 0) (hl : lastI (decL use) (decL use).length = some i) (hb : badA (lnkD (decL use) i) = false) (hf : f ≠ 0) (hk : hasBlk img (plcV (lnkD (decL use) i) 0) = true) :
    wlk img (f + 1) use a = (nonCE (decL use) :: (wlk img f (nextS img (lnkD (decL use) i)) (plcV (lnkD (decL use) i) 0)).1, (wlk img f (nextS img (lnkD (decL use) i)) (plcV (lnkD (decL use) i) 0)).2) := by
  rw [wlk, if_pos h, hl]; simp [hb, hf, hk]
end

theorem decO_len : ∀ (n : Nat) (t : ByteArray), t.size ≤ n → ∀ l, decO t = some l → 4 * l.length ≤ t.size
  | n, t, hn, l, h => by
    by_cases h1 : stopB t
    · rw [decO_stop h1] at h
      injection h with h
      subst h
      exact Nat.zero_le _
    · by_cases h2 : badB t
      · rw [decO_bad h1 h2] at h
        cases h
      · rw [decO_more h1 h2] at h
        obtain ⟨r, hr, rfl⟩ := Option.map_eq_some_iff.1 h
        have h3 := restB_size h2
        cases n with
        | zero => omega
        | succ n =>
          have := decO_len n (restB t) (by omega) r hr
          rw [List.length_cons]
          omega
theorem decL_len (s : ByteArray) : 4 * (decL s).length ≤ s.size := by
  unfold decL
  cases h : decO s with
  | none => exact Nat.zero_le _
  | some l => exact decO_len _ s (Nat.le_refl _) l h
theorem wlk_head (img : List ByteArray) (f : Nat) (use : ByteArray) (a : Int) (h : decE use = 0) : ∃ r, (wlk img (f + 1) use a).1 = nonCE (decL use) :: r := by
  rw [wlk, if_pos h]
  split
  · exact ⟨[], rfl⟩
  · split
    · exact ⟨[], rfl⟩
    · split
      · exact ⟨[], rfl⟩
      · split
        · exact ⟨_, rfl⟩
        · exact ⟨[], rfl⟩
theorem decO_d : ∀ (n : Nat) (t : ByteArray), t.size ≤ n → ∀ l, decO t = some l → ∀ x ∈ l, x.d.size ≤ 255
  | n, t, hn, l, h => by
    by_cases h1 : stopB t
    · rw [decO_stop h1] at h
      injection h with h
      subst h
      intro x hx
      cases hx
    · by_cases h2 : badB t
      · rw [decO_bad h1 h2] at h
        cases h
      · rw [decO_more h1 h2] at h
        obtain ⟨r, hr, rfl⟩ := Option.map_eq_some_iff.1 h
        have h3 := restB_size h2
        have h4 := nthB_lt t 2
        intro x hx
        rcases List.mem_cons.1 hx with rfl | hx
        · show (t.extract 4 (nthB t 2)).size ≤ 255
          rw [ByteArray.size_extract]
          omega
        · cases n with
          | zero => omega
          | succ n => exact decO_d n (restB t) (by omega) r hr x hx
theorem decL_d (s : ByteArray) : ∀ x ∈ decL s, x.d.size ≤ 255 := by
  unfold decL
  cases h : decO s with
  | none => intro x hx; cases hx
  | some l => exact decO_d _ s (Nat.le_refl _) l h
theorem plcV_nn (d : ByteArray) (i : Nat) : 0 ≤ plcV d i := by
  unfold plcV rV rdV
  split
  · exact Int.le_refl _
  · split
    · split
      · omega
      · exact Int.le_refl _
    · exact Int.le_refl _
theorem plcV_lt (d : ByteArray) (i : Nat) : plcV d i < 9223372036854775808 := by
  unfold plcV rV rdV
  split
  · decide
  · split
    · split
      · omega
      · decide
    · decide
def plcE (d : ByteArray) (i : Nat) : Int := rE d.size ((8 * i : Nat) : Int) 4 (nLe d ((8 * i : Nat) : Int) 4)
theorem plcE_ok {d : ByteArray} (h : d.size = 24) : plcE d 2 = 0 := by
  unfold plcE
  rw [rE_in (by unfold sizeBad; omega) (by unfold insideB; rw [h]; decide)]
  unfold rdE
  rw [if_pos]
  unfold nLe
  have h1 := valN_lt (partB d 16 4)
  rw [partB_length (by omega)] at h1
  exact Nat.lt_of_lt_of_le h1 (by decide)
/-- The cells of the place when t numbers have been read. -/
def plcA (d : ByteArray) (t : Nat) : Array Value := #[if 0 < t then .int .i64 (plcV d 0) else .int .i64 0, if 1 < t then .int .i64 (plcV d 1) else .int .i64 0, if 2 < t then .int .i64 (plcV d 2) else .int .i64 0]
theorem plcA_next (d : ByteArray) (t : Nat) (h : t < 3) : (plcA d t)[t]? = some (.int .i64 0) ∧ (plcA d t).setIfInBounds t (.int .i64 (plcV d t)) = plcA d (t + 1) := by
  match t, h with
  | 0, _ => exact ⟨rfl, rfl⟩
  | 1, _ => exact ⟨rfl, rfl⟩
  | 2, _ => exact ⟨rfl, rfl⟩
def plcX (d : ByteArray) : Nat → Int
  | 0 => 0
  | t + 1 => plcE d t
/-- What the iterator yields: a slice and its entries. -/
structure Yl where
  A : Option Addr
  c : Nat
  l : List Ent
def Yl.enc (x : Yl) : Array Value := #[.slice x.A x.l.length x.c]
def allE (pre : List Yl) : List Ent := pre.flatMap (·.l)
theorem allE_snoc (pre : List Yl) (x : Yl) : allE (pre ++ [x]) = allE pre ++ x.l := by simp [allE]
theorem allE_map (pre : List Yl) : allE pre = (pre.map (·.l)).flatten := by simp [allE, List.flatMap]
theorem St.drop2_ {w0 w : World} {r1 r2 : Nat × TypeId × Array Value} {rows : Rows} (h : St w0 w (r1 :: r2 :: rows)) : St w0 w (r1 :: rows) := (St.swap h).drop1
/-- Between two rounds. -/
def WkI (w : World) (Bo : Nat) (σ : Rows) (pre : List Yl) (W : World) : Prop :=
  ∃ v, St w W ((Bo, 22, #[v]) :: σ) ∧ W.ownsRow w.heap.size 41 3 v (allE pre).length (flat encE (allE pre)) ∧ ∀ r ∈ σ, v.ownBlock ≠ some r.1
def WkP (pre : List Yl) (x : Yl) (W : World) : Prop := EnAt W W.heap.size x.A x.l ∧ (allE (pre ++ [x])).length ≤ 1024
abbrev wkRows (Bi Bwp Bu Bp Bw : Nat) (A : Option Addr) (n c : Nat) (use : ByteArray) (a e : Int) : Rows :=
  [(Bi, 56, #[.slice A n c]), (Bwp, 87, #[.pointer (some ⟨Bw, 0, none⟩)]), (Bu, 9, #[.string use]), (Bp, 87, #[.pointer (some ⟨Bw, 0, none⟩)]), (Bw, 89, #[.int .i64 a, .int .i64 e])]
theorem cell_cells {W : World} {g o : Nat} {u : Value} (h : W.cell? ⟨g, o, none⟩ = some u) : ∃ ob : Obj, W.heap[g]? = some ob ∧ ob.isCells = true := by
  unfold World.cell? at h
  cases ho : W.heap[g]? with
  | none => simp [ho] at h
  | some ob => exact ⟨ob, rfl, by cases ob <;> simp_all [Obj.isCells]⟩
theorem SlAt.keepO {W W' : World} {B : Nat} {A : Option Addr} {xs : List Value} (h : SlAt W B A xs) {row : Option Nat} (hg : W.grownBy W' row) (hr : ∀ r, row = some r → ∃ o : Obj, W.heap[r]? = some o ∧ o.isCells = false) : SlAt W' B A xs := fun j u hu => by
  obtain ⟨b, off, e, hb, hc⟩ := h j u hu
  obtain ⟨ob, ho, hoc⟩ := cell_cells hc
  refine ⟨b, off, e, hb, (World.cell?_of_block (hg.block b (Array.getElem?_eq_some_iff.1 ho).1 (fun e => ?_))).trans hc⟩
  obtain ⟨o', ho', hc'⟩ := hr b e.symm
  rw [ho] at ho'
  injection ho' with ho'
  subst ho'
  rw [hoc] at hc'
  cases hc'
theorem WkI.own {w : World} {Bo B : Nat} (hB : w.heap.size ≤ B) (σ : Rows) : OwnFrom B (WkI w Bo σ) := by
  rintro pre W W' row ⟨v, h1, h2, h3⟩ hg hr
  have hr' : ∀ r, row = some r → w.heap.size ≤ r ∧ ∃ o : Obj, W.heap[r]? = some o ∧ o.isCells = false := fun r e => ⟨by have := (hr r e).1; omega, (hr r e).2⟩
  exact ⟨v, h1.keep_own hg hr', ownsRow_own h2 hg hr', h3⟩
theorem WkP.own {B : Nat} (pre : List Yl) : OwnFrom B (WkP pre) := by
  rintro x W W' row ⟨h1, h2⟩ hg hr
  exact ⟨SlAt.mono (SlAt.keepO h1 hg (fun r e => (hr r e).2)) hg.size, h2⟩
theorem own_set_ty {W : World} {base e size n g j : Nat} {v u : Value} {xs : List Value} {t : TypeId} {cs : Array Value} (h : W.ownsRow base e size v n xs) (hr : RowAt W g t cs) (hne : e ≠ t) : (W.setCell ⟨g, j, none⟩ u).ownsRow base e size v n xs := by
  have hk := own_row_ne h hr hne
  refine ⟨h.1, ?_⟩
  rcases h.2 with h2 | ⟨k, cap, cur, hv, hb, hh, r⟩
  · exact .inl h2
  · refine .inr ⟨k, cap, cur, hv, hb, ?_, r⟩
    have h1 : (W.setCell ⟨g, j, none⟩ u).heap[k]? = W.heap[k]? := Below.heap_setCell W _ _ k (hk k (by rw [hv]; rfl))
    rw [h1]
    exact hh
section
variable {w W W' : World} {Bo : Nat} {σ : Rows} {pre : List Yl}
theorem WkI.bel (h : WkI w Bo σ pre W) : Below w.heap.size w W := by
  obtain ⟨v, h1, _⟩ := h
  exact h1.bel
theorem WkI.call (h : WkI w Bo σ pre W) (hb : Below W.heap.size W W') : WkI w Bo σ pre W' := by
  obtain ⟨v, h1, h2, h3⟩ := h
  exact ⟨v, h1.call hb, own_all h2 hb, h3⟩
theorem WkI.drew (h : WkI w Bo σ pre W) : WkI w Bo σ pre W.drew := by
  obtain ⟨v, h1, h2, h3⟩ := h
  exact ⟨v, h1.drew, h2, h3⟩
theorem WkI.at (h : WkI w Bo σ pre W) {i g : Nat} {t : TypeId} {cs : Array Value} (hi : σ[i]? = some (g, t, cs)) : RowAt W g t cs := by
  obtain ⟨v, h1, h2, h3⟩ := h
  exact h1.at (i := i + 1) (by rw [List.getElem?_cons_succ]; exact hi)
theorem WkI.set (h : WkI w Bo σ pre W) (i : Nat) {g : Nat} {t : TypeId} {cs : Array Value} (hi : σ[i]? = some (g, t, cs)) (ht : 41 ≠ t) (j : Nat) (u : Value) : WkI w Bo (σ.set i (g, t, cs.setIfInBounds j u)) pre (W.setCell ⟨g, j, none⟩ u) := by
  have hr := h.at hi
  obtain ⟨v, h1, h2, h3⟩ := h
  refine ⟨v, h1.set (i + 1) (by rw [List.getElem?_cons_succ]; exact hi) j u, own_set_ty h2 hr ht, fun r hm => ?_⟩
  obtain ⟨k, hk⟩ := List.getElem?_of_mem hm
  rw [List.getElem?_set] at hk
  split at hk
  · split at hk
    · injection hk with hk
      subst hk
      exact h3 (g, t, cs) (List.mem_of_getElem? hi)
    · cases hk
  · exact h3 _ (List.mem_of_getElem? hk)
theorem WkI.join (h : WkI w Bo σ pre W) (hb : Below W.heap.size W W') {g : Nat} {t : TypeId} {cs : Array Value} (hg : W.heap.size ≤ g) (hr : RowAt W' g t cs) : WkI w Bo ((g, t, cs) :: σ) pre W' := by
  obtain ⟨v, h1, h2, h3⟩ := h
  have hlt := h1.at (i := 0) rfl
  have h4 := h1.call hb
  refine ⟨v, St.swap ?_, own_all h2 hb, fun r hm => ?_⟩
  · refine ⟨h4.1, fun r hm => ?_, List.Pairwise.cons (fun r hm => ?_) h4.2.2⟩
    · rcases List.mem_cons.1 hm with rfl | hm
      · exact ⟨Nat.le_trans h1.bel.size hg, hr⟩
      · exact h4.2.1 r hm
    · have := (h1.2.1 r hm).2.lt
      show g ≠ r.1
      omega
  · rcases List.mem_cons.1 hm with rfl | hm
    · intro e
      have := (h2.lt g e).2
      omega
    · exact h3 r hm
theorem WkI.new (h : WkI w Bo σ pre W) {g : Nat} (hg : W.heap.size = g) (cs : Array Value) (t : TypeId) : WkI w Bo ((g, t, cs) :: σ) pre (W.alloc (.cells cs t)) := by
  subst hg
  exact h.join ((Below.refl _ _).alloc (Nat.le_refl _) _) (Nat.le_refl _) (RowAt.new _ _ _)
theorem WkI.drop1 {r : Nat × TypeId × Array Value} (h : WkI w Bo (r :: σ) pre W) : WkI w Bo σ pre W := by
  obtain ⟨v, h1, h2, h3⟩ := h
  exact ⟨v, h1.drop2_, h2, fun x hx => h3 x (List.mem_cons_of_mem _ hx)⟩
end
end Go.Proofs.Ytnomodbcpndocaa
