/-
  circ.Decode: the two closures.
-/
import Derived.Test.YtlnjphggfbiabaaGreatMEc
import Derived.Test.YtlnjphggfbiabaaGreatMTa
namespace Go.Proofs.YtlnjphggfbiabaaGreat
open Go.RowKit
set_option linter.unusedVariables false

theorem str_full {x : ByteArray} (h : 0 < x.size) : x.toList.isEmpty = false := by
  rw [ByteArray.toList_eq]
  have h2 : x.data.toList.length = x.size := rfl
  cases hx : x.data.toList with
  | nil => rw [hx] at h2; simp at h2; omega
  | cons a l => rfl
theorem dec1_here (i fr gR gb ge gw gd N : Nat) (R : List ByteArray) (wd : List Nat) (x : ByteArray) (w : World) (hR : RowAt w gR 37 #[.slice (some ⟨gb, 0, none⟩) N N]) (hb : RowAt w gb 9 (strV R).toArray)
    (hw : RowAt w gw 75 #[.slice (some ⟨gd, 0, none⟩) 28 28]) (hd : RowAt w gd 5 (natV wd).toArray) (hx : R[fr]? = some x) (hxs : i < x.size) (hfr : fr < N) (hi : i < 28) (hwl : wd.length = 28) :
    Calls Tryz.prog 35 #[.int .i64 (i : Int), .int .i64 (fr : Int), .pointer (some ⟨gR, 0, none⟩), .pointer (some ⟨ge, 0, none⟩), .pointer (some ⟨gw, 0, none⟩)] w fun e w' => e = .returned (.tuple #[]) ∧ ∃ W, Below w.heap.size w W ∧ w' = W.setCell ⟨gd, i, none⟩ (.int .u8 (((sN x)[i]?.getD 0 : Nat) : Int)) := by
  have q1 := hR.cell
  have q2 : w.cell? ⟨gb, fr, none⟩ = some (.string x) := by rw [hb.cell, List.getElem?_toArray]; exact strV_get hx
  have h0f : (0 : Int) ≤ (fr : Int) := by omega
  have h0i : (0 : Int) ≤ (i : Int) := by omega
  have hfI : (fr : Int) < (N : Int) := by omega
  have hiI : (i : Int) < 28 := by omega
  have hsI : (i : Int) < (x.size : Int) := by omega
  have hne := str_full (by omega : 0 < x.size)
  have hgx := sN_get hxs
  have hx2 : (sN x)[i]?.getD 0 = x[i].toNat := by rw [hgx]; rfl
  have hgy : x[i]'hxs = (x[i]'hxs) := rfl
  obtain ⟨y, hy⟩ : ∃ y, wd[i]? = some y := ⟨_, List.getElem?_eq_getElem (by omega)⟩
  have HC : Hid (∀ w' : World, Below w.heap.size w w' → w'.cell? ⟨gd, i, none⟩ = some (.int .u8 (y : Int)) ∧ w'.frozen? ⟨gd, i, none⟩ = false ∧ w'.cell? ⟨gb, fr, none⟩ = some (.string x) ∧ w'.cell? ⟨gR, 0, none⟩ = some (.slice (some ⟨gb, 0, none⟩) N N) ∧ w'.cell? ⟨gw, 0, none⟩ = some (.slice (some ⟨gd, 0, none⟩) 28 28)) := Lib.hid (fun w' h =>
    ⟨by rw [(hd.below h hd.lt).cell, List.getElem?_toArray]; exact natV_get hy, (hd.below h hd.lt).frozen _, by rw [(hb.below h hb.lt).cell, List.getElem?_toArray]; exact strV_get hx, (hR.below h hR.lt).cell 0, (hw.below h hw.lt).cell 0⟩)
  clear hR hb hw hd hx hy hgx hwl
  go_enter Tryz.func35, Tryz.ntmps35
  go_wp2_with fail
  refine wp_region_any (by kernel_rfl) (wpAny_of_Z (S := fun w' => Below w.heap.size w w') (z := 9) _ _ _ _ ?_)
  have hHeld : Below w.heap.size w (World.drew w) := (Below.refl _ _).drew
  change wpAnyZ _ _ _ _ _ _ _ _ _ (World.drew _)
  refine wpAnyZ_take (i := 0) (oi := ?o1) (v := ?v1) ?hi1 (by kernel_rfl) (by kernel_rfl) (by kernel_rfl) (by kernel_rfl) ?hq1 ?hy1 (by assumption) ?hr1
  case hi1 => (simp only [List.getElem?_toArray, List.getElem?_cons_zero]; rfl)
  case hy1 => ((refine .inl ⟨by rfl, ?_⟩); intro w hS; have qc := HC.out _ hS; have qa := qc.2.2.1; have qb := qc.2.2.2.1; have qd := qc.2.2.2.2; go_simp; (try with_reducible rfl))
  case hq1 => exact fun _ _ _ h => h
  (try simp only [Act.put, List.setIfInBounds_toArray, List.set_cons_zero, List.set_cons_succ])
  refine wpAnyZ_take (i := 1) (oi := ?o2) (v := ?v2) ?hi2 (by kernel_rfl) (by kernel_rfl) (by kernel_rfl) (by kernel_rfl) ?hq2 ?hy2 (by assumption) ?hr2
  case hi2 => (simp only [List.getElem?_toArray, List.getElem?_cons_succ, List.getElem?_cons_zero]; rfl)
  case hy2 => ((refine .inl ⟨by rfl, ?_⟩); intro w hS; go_simp; (try with_reducible rfl))
  case hq2 => exact fun _ _ _ h => h
  (try simp only [Act.put, List.setIfInBounds_toArray, List.set_cons_zero, List.set_cons_succ])
  refine wpAnyZ_take (i := 2) (oi := ?o3) (v := ?v3) ?hi3 (by kernel_rfl) (by kernel_rfl) (by kernel_rfl) (by kernel_rfl) ?hq3 ?hy3 (by assumption) ?hr3
  case hi3 => (simp only [List.getElem?_toArray, List.getElem?_cons_succ, List.getElem?_cons_zero]; rfl)
  case hy3 => ((refine .inl ⟨by rfl, ?_⟩); intro w hS; have qc := HC.out _ hS; have qa := qc.2.2.1; have qb := qc.2.2.2.1; have qd := qc.2.2.2.2; go_simp; (try with_reducible rfl))
  case hq3 => exact fun _ _ _ h => h
  (try simp only [Act.put, List.setIfInBounds_toArray, List.set_cons_zero, List.set_cons_succ])
  refine wpAnyZ_take (i := 3) (oi := ?o4) (v := ?v4) ?hi4 (by kernel_rfl) (by kernel_rfl) (by kernel_rfl) (by kernel_rfl) ?hq4 ?hy4 (by assumption) ?hr4
  case hi4 => (simp only [List.getElem?_toArray, List.getElem?_cons_succ, List.getElem?_cons_zero]; rfl)
  case hy4 => ((refine .inl ⟨by rfl, ?_⟩); intro w hS; go_simp; (try with_reducible rfl))
  case hq4 => exact fun _ _ _ h => h
  (try simp only [Act.put, List.setIfInBounds_toArray, List.set_cons_zero, List.set_cons_succ])
  refine wpAnyZ_take (i := 4) (oi := ?o5) (v := ?v5) ?hi5 (by kernel_rfl) (by kernel_rfl) (by kernel_rfl) (by kernel_rfl) ?hq5 ?hy5 (by assumption) ?hr5
  case hi5 => (simp only [List.getElem?_toArray, List.getElem?_cons_succ, List.getElem?_cons_zero]; rfl)
  case hy5 => ((refine .inl ⟨by rfl, ?_⟩); intro w hS; go_simp; (try with_reducible rfl))
  case hq5 => exact fun _ _ _ h => h
  (try simp only [Act.put, List.setIfInBounds_toArray, List.set_cons_zero, List.set_cons_succ])
  refine wpAnyZ_take (i := 5) (oi := ?o6) (v := ?v6) ?hi6 (by kernel_rfl) (by kernel_rfl) (by kernel_rfl) (by kernel_rfl) ?hq6 ?hy6 (by assumption) ?hr6
  case hi6 => (simp only [List.getElem?_toArray, List.getElem?_cons_succ, List.getElem?_cons_zero]; rfl)
  case hy6 => ((refine .inl ⟨by rfl, ?_⟩); intro w hS; have qc := HC.out _ hS; have qa := qc.2.2.1; have qb := qc.2.2.2.1; have qd := qc.2.2.2.2; go_simp; (try with_reducible rfl))
  case hq6 => exact fun _ _ _ h => h
  (try simp only [Act.put, List.setIfInBounds_toArray, List.set_cons_zero, List.set_cons_succ])
  refine wpAnyZ_take (i := 6) (oi := ?o7) (v := ?v7) ?hi7 (by kernel_rfl) (by kernel_rfl) (by kernel_rfl) (by kernel_rfl) ?hq7 ?hy7 (by assumption) ?hr7
  case hi7 => (simp only [List.getElem?_toArray, List.getElem?_cons_succ, List.getElem?_cons_zero]; rfl)
  case hy7 => ((refine .inl ⟨by rfl, ?_⟩); intro w hS; go_simp; (try with_reducible rfl))
  case hq7 => exact fun _ _ _ h => h
  (try simp only [Act.put, List.setIfInBounds_toArray, List.set_cons_zero, List.set_cons_succ])
  refine wpAnyZ_take (i := 7) (oi := ?o8) (v := ?v8) ?hi8 (by kernel_rfl) (by kernel_rfl) (by kernel_rfl) (by kernel_rfl) ?hq8 ?hy8 (by assumption) ?hr8
  case hi8 => (simp only [List.getElem?_toArray, List.getElem?_cons_succ, List.getElem?_cons_zero]; rfl)
  case hy8 => ((refine .inl ⟨by rfl, ?_⟩); intro w hS; go_simp; (try with_reducible rfl))
  case hq8 => exact fun _ _ _ h => h
  (try simp only [Act.put, List.setIfInBounds_toArray, List.set_cons_zero, List.set_cons_succ])
  refine wpAnyZ_take (i := 8) (oi := ?o9) (v := ?v9) ?hi9 (by kernel_rfl) (by kernel_rfl) (by kernel_rfl) (by kernel_rfl) ?hq9 ?hy9 (by assumption) ?hr9
  case hi9 => (simp only [List.getElem?_toArray, List.getElem?_cons_succ, List.getElem?_cons_zero]; rfl)
  case hy9 => ((refine .inl ⟨by rfl, ?_⟩); intro w hS; go_simp; (try with_reducible rfl))
  case hq9 => exact fun _ _ _ h => h
  (try simp only [Act.put, List.setIfInBounds_toArray, List.set_cons_zero, List.set_cons_succ])
  refine wpAnyZ_last (by kernel_rfl) rfl (fun K hK => ?_)
  have HHB := Lib.hid hHeld; have qc := HC.out _ hHeld; have qb := qc.1; have fb := qc.2.1; go_simp
  refine hK.out _ _ ?_
  clear hK K
  (try simp only [Act.put])
  refine wpAnyZ_done (by kernel_rfl) ?_ _
  go_wp2_with fail
  go_end0
  exact ⟨rfl, _, HHB.out, by rw [hx2]; rfl⟩
theorem St.setHead {w0 w : World} {rows : Rows} {g : Nat} {t : TypeId} {v u : Value} (h : St w0 w ((g, t, #[v]) :: rows)) : St w0 (w.setCell ⟨g, 0, none⟩ u) ((g, t, #[u]) :: rows) := h.set 0 rfl 0 u
set_option maxHeartbeats 2000000 in
theorem dec1_gone (i fr gR gb ge N base : Nat) (V : Value) (R : List ByteArray) (er : List Nat) (A : Option Addr) (c : Nat) (w0 w : World) (rows : Rows) (hR : RowAt w gR 37 #[.slice (some ⟨gb, 0, none⟩) N N]) (hb : RowAt w gb 9 (strV R).toArray)
    (hs : St w0 w ((ge, 29, #[.slice A er.length c]) :: rows)) (ho : w.ownsRow base 3 1 (.slice A er.length c) er.length (posV er)) (hlt : ∀ r ∈ ((ge, 29, #[.slice A er.length c]) :: rows : Rows), r.1 < base) (h0 : w0.heap.size ≤ base) (hbs : base ≤ w.heap.size) (hx : R[fr]? = some ⟨#[]⟩) (hfr : fr < N) (hi : i < 28) (hel : er.length ≤ 100) :
    Calls Tryz.prog 35 #[.int .i64 (i : Int), .int .i64 (fr : Int), .pointer (some ⟨gR, 0, none⟩), .pointer (some ⟨ge, 0, none⟩), V] w fun e w' => e = .returned (.tuple #[]) ∧ ∃ A' c', St w0 w' ((ge, 29, #[.slice A' (er ++ [i]).length c']) :: rows) ∧ w'.ownsRow base 3 1 (.slice A' (er ++ [i]).length c') (er ++ [i]).length (posV (er ++ [i])) ∧ w.heap.size ≤ w'.heap.size := by
  have q1 := hR.cell
  have q2 : w.cell? ⟨gb, fr, none⟩ = some (.string ⟨#[]⟩) := by rw [hb.cell, List.getElem?_toArray]; exact strV_get hx
  have q3 := (hs.at (i := 0) rfl).cell
  have h0f : (0 : Int) ≤ (fr : Int) := by omega
  have hfI : (fr : Int) < (N : Int) := by omega
  have HST := Lib.hid hs
  have HO := Lib.hid ho
  have HLT := Lib.hid hlt
  have hl : Hid ((er ++ [i]).length = er.length + 1) := Lib.hid (by rw [List.length_append]; rfl)
  rw [hl.out]
  obtain ⟨m, hm⟩ : ∃ m, er.length = m := ⟨_, rfl⟩
  rw [hm] at q3 HST HO HLT hel ⊢
  clear hl hm hR hb hs ho hlt hx
  go_enter Tryz.func35, Tryz.ntmps35
  go_wp2_with (at_builtin; refine wpList_app1 HO.out info_intp Tryz.underlying29 rfl (by unfold maxLen; omega) (by omega) hbs rfl rfl rfl (by rfl) (by rfl) ?_; intro v5 w6 hown6 hb6 hg6; have HST6 := Lib.hid (HST.out.grown_own HO.out hg6 h0 HLT.out); obtain ⟨A6, c6, hv6⟩ := own_slice hown6; subst hv6; have HO6 := Lib.hid hown6; have HS6 := Lib.hid hb6.size; have q6 := (HST6.out.at (i := 0) rfl).cell; have f6 := (HST6.out.at (i := 0) rfl).frozen; clear hown6 hb6 hg6)
  go_end0
  have h9 := own_set HO6.out (j := 0) (u := .slice A6 (m + 1) c6) (show ge < base from HLT.out _ List.mem_cons_self)
  rw [posV_snoc] at h9
  refine ⟨rfl, A6, c6, HST6.out.setHead, h9, ?_⟩
  rw [World.size_setCell]
  exact HS6.out
end Go.Proofs.YtlnjphggfbiabaaGreat

/-
  circ.Decode: plain words.
-/
namespace Go.Proofs.YtlnjphggfbiabaaGreat
open Go.RowKit
set_option linter.unusedVariables false

def goneB (L : List ByteArray) (g : Nat) : Bool := (L[g]?.getD ⟨#[]⟩).size == 0
theorem size_zero {x : ByteArray} (h : x.size = 0) : x = ⟨#[]⟩ := by
  cases x with
  | mk d =>
    have : d.size = 0 := h
    rw [Array.eq_empty_of_size_eq_zero this]
theorem gone_get {L : List ByteArray} {g : Nat} (hg : g < L.length) (h : goneB L g = true) : L[g]? = some ⟨#[]⟩ := by
  unfold goneB at h
  rw [List.getElem?_eq_getElem hg] at h ⊢
  rw [Option.getD_some] at h
  exact congrArg some (size_zero (by simpa using h))
def FrOk (D : List Nat) (n : Nat) (L : List ByteArray) : Prop := L.length = n + 108 ∧ ∀ g, g < n + 108 → goneB L g = false → L[g]? = some (frameN D n g)
def rowsR (L : List ByteArray) (D : List Nat) (n k : Nat) : List ByteArray := (List.range (n + 108)).map fun g => if g < k ∧ goneB L g = false then natS (rowN D n g) else ⟨#[]⟩
theorem rowsR_length (L : List ByteArray) (D : List Nat) (n k : Nat) : (rowsR L D n k).length = n + 108 := by simp [rowsR]
theorem rowsR_zero (L : List ByteArray) (D : List Nat) (n : Nat) : rowsR L D n 0 = List.replicate (n + 108) ⟨#[]⟩ := by
  unfold rowsR
  apply List.ext_getElem (by simp)
  intro i h1 h2
  simp
theorem rowsR_gone {L : List ByteArray} {D : List Nat} {n k : Nat} (h : goneB L k = true) : rowsR L D n (k + 1) = rowsR L D n k := by
  unfold rowsR
  refine List.map_congr_left fun g _ => ?_
  by_cases e : g = k
  · subst e
    rw [if_neg (by rw [h]; simp), if_neg (by rw [h]; simp)]
  · have : (g < k + 1 ∧ goneB L g = false) ↔ (g < k ∧ goneB L g = false) := by
      constructor
      · rintro ⟨a, b⟩; exact ⟨by omega, b⟩
      · rintro ⟨a, b⟩; exact ⟨by omega, b⟩
    simp only [this]
theorem rowsR_here {L : List ByteArray} {D : List Nat} {n k : Nat} (h : goneB L k = false) (hk : k < n + 108) : rowsR L D n (k + 1) = (rowsR L D n k).set k (natS (rowN D n k)) := by
  apply List.ext_getElem (by simp [rowsR])
  intro g h1 h2
  rw [List.getElem_set]
  simp only [rowsR, List.getElem_map, List.getElem_range]
  by_cases e : k = g
  · subst e
    rw [if_pos ⟨by omega, h⟩, if_pos rfl]
  · rw [if_neg e]
    have : (g < k + 1 ∧ goneB L g = false) ↔ (g < k ∧ goneB L g = false) := by
      constructor
      · rintro ⟨a, b⟩; exact ⟨by omega, b⟩
      · rintro ⟨a, b⟩; exact ⟨by omega, b⟩
    simp only [this]
theorem rowsR_get {L : List ByteArray} {D : List Nat} {n g : Nat} (hg : g < n + 108) : (rowsR L D n (n + 108))[g]? = some (if goneB L g = false then natS (rowN D n g) else ⟨#[]⟩) := by
  unfold rowsR
  rw [List.getElem?_map, List.getElem?_range hg]
  simp [hg]
/-- The erased symbols of a word among its first i. -/
def erK (L : List ByteArray) (f i : Nat) : List Nat := (List.range i).filter fun j => goneB L (f + 4 * j)
theorem erK_gone {L : List ByteArray} {f i : Nat} (h : goneB L (f + 4 * i) = true) : erK L f (i + 1) = erK L f i ++ [i] := by
  unfold erK
  rw [List.range_succ, List.filter_append]
  simp [h]
theorem erK_here {L : List ByteArray} {f i : Nat} (h : goneB L (f + 4 * i) = false) : erK L f (i + 1) = erK L f i := by
  unfold erK
  rw [List.range_succ, List.filter_append]
  simp [h]
theorem erK_len (L : List ByteArray) (f i : Nat) : (erK L f i).length ≤ i := by
  unfold erK
  exact Nat.le_trans (List.length_filter_le _ _) (by simp)
theorem erK_inc (L : List ByteArray) (f i : Nat) : (erK L f i).Pairwise (· < ·) := List.Pairwise.filter _ List.pairwise_lt_range
theorem erK_mem {L : List ByteArray} {f i j : Nat} : j ∈ erK L f i ↔ j < i ∧ goneB L (f + 4 * j) = true := by
  unfold erK
  rw [List.mem_filter, List.mem_range]
/-- The word when i symbols are collected. -/
def wdK (D : List Nat) (L : List ByteArray) (f i : Nat) : List Nat := (List.range 28).map fun j => if j < i ∧ goneB L (f + 4 * j) = false then (wordN D f)[j]?.getD 0 else 0
theorem wdK_length (D : List Nat) (L : List ByteArray) (f i : Nat) : (wdK D L f i).length = 28 := by simp [wdK]
theorem wdK_zero (D : List Nat) (L : List ByteArray) (f : Nat) : wdK D L f 0 = List.replicate 28 0 := by
  unfold wdK
  apply List.ext_getElem (by simp)
  intro i h1 h2
  rw [List.getElem_replicate]
  simp
theorem wdK_gone {D : List Nat} {L : List ByteArray} {f i : Nat} (h : goneB L (f + 4 * i) = true) : wdK D L f (i + 1) = wdK D L f i := by
  unfold wdK
  refine List.map_congr_left fun g _ => ?_
  by_cases e : g = i
  · subst e
    rw [if_neg (by rw [h]; simp), if_neg (by rw [h]; simp)]
  · have : (g < i + 1 ∧ goneB L (f + 4 * g) = false) ↔ (g < i ∧ goneB L (f + 4 * g) = false) := by
      constructor
      · rintro ⟨a, b⟩; exact ⟨by omega, b⟩
      · rintro ⟨a, b⟩; exact ⟨by omega, b⟩
    simp only [this]
theorem wdK_here {D : List Nat} {L : List ByteArray} {f i : Nat} (h : goneB L (f + 4 * i) = false) (hi : i < 28) : wdK D L f (i + 1) = (wdK D L f i).set i ((wordN D f)[i]?.getD 0) := by
  apply List.ext_getElem (by simp [wdK])
  intro g h1 h2
  rw [List.getElem_set]
  simp only [wdK, List.getElem_map, List.getElem_range]
  by_cases e : i = g
  · subst e
    rw [if_pos ⟨by omega, h⟩, if_pos rfl]
  · rw [if_neg e]
    have : (g < i + 1 ∧ goneB L (f + 4 * g) = false) ↔ (g < i ∧ goneB L (f + 4 * g) = false) := by
      constructor
      · rintro ⟨a, b⟩; exact ⟨by omega, b⟩
      · rintro ⟨a, b⟩; exact ⟨by omega, b⟩
    simp only [this]
theorem wdK_b8 {D : List Nat} (h : B8 D) (L : List ByteArray) (f i : Nat) : B8 (wdK D L f i) := fun n hn => by
  obtain ⟨j, _, rfl⟩ := List.mem_map.1 hn
  split
  · exact (wordN_b8 h f).getD j
  · decide
theorem wdK_get {D : List Nat} {L : List ByteArray} {f j : Nat} (hj : j < 28) (h : goneB L (f + 4 * j) = false) : (wdK D L f 28)[j]? = some ((wordN D f)[j]?.getD 0) := by
  unfold wdK
  rw [List.getElem?_map, List.getElem?_range hj]
  simp [hj, h]
theorem wordN_length {D : List Nat} {f n : Nat} (hD : D.length = 24 * n) (hf : f < n) (h8 : B8 D) : (wordN D f).length = 28 := by
  unfold wordN
  rw [(rsEnc_len ((h8.drop _).take _)).1, List.length_take, List.length_drop]
  omega
theorem wordN_take {D : List Nat} {f n : Nat} (hD : D.length = 24 * n) (hf : f < n) : (wordN D f).take 24 = (D.drop (24 * f)).take 24 := by
  unfold wordN rsEnc
  rw [List.take_append_of_le_length (by rw [List.length_take, List.length_drop]; omega), List.take_of_length_le (by rw [List.length_take]; omega)]
theorem row_word (D : List Nat) (n f i : Nat) (hf : f < n) (hi : i < 28) : (rowN D n (f + 4 * i))[i]?.getD 0 = (wordN D f)[i]?.getD 0 := by
  unfold rowN
  rw [List.getElem?_map, List.getElem?_range hi]
  simp only [Option.map_some, Option.getD_some]
  unfold partN
  have e1 : ((f + 4 * i) * 28 + i) / 28 = f + 4 * i := by omega
  have e2 : ((f + 4 * i) * 28 + i) % 28 = i := by omega
  rw [e1, e2, if_pos (by omega), show f + 4 * i - 4 * i = f by omega]
/-- The bytes of a word. -/
def outF (D : List Nat) (L : List ByteArray) (f : Nat) : List Nat := if (erK L f 28).length ≤ 4 then (wordN D f).take 24 else (wdK D L f 28).take 24
def outK (D : List Nat) (L : List ByteArray) (k : Nat) : List Nat := (List.range k).flatMap (outF D L)
def lsF (L : List ByteArray) (f : Nat) : List Nat := if (erK L f 28).length ≤ 4 then [] else ((erK L f 28).filter (· < 24)).map (24 * f + ·)
def lsK (L : List ByteArray) (k : Nat) : List Nat := (List.range k).flatMap (lsF L)
theorem outK_succ (D : List Nat) (L : List ByteArray) (k : Nat) : outK D L (k + 1) = outK D L k ++ outF D L k := by simp [outK, List.range_succ]
theorem lsK_succ (L : List ByteArray) (k : Nat) : lsK L (k + 1) = lsK L k ++ lsF L k := by simp [lsK, List.range_succ]
section
variable {D : List Nat} {L : List ByteArray} {n : Nat}
theorem outF_ok (hD : D.length = 24 * n) (h8 : B8 D) {f : Nat} (hf : f < n) : (outF D L f).length = 24 ∧ B8 (outF D L f) := by
  unfold outF
  split
  · refine ⟨?_, (wordN_b8 h8 f).take 24⟩
    rw [List.length_take, wordN_length hD hf h8]; rfl
  · refine ⟨?_, (wdK_b8 h8 L f 28).take 24⟩
    rw [List.length_take, wdK_length]; rfl
theorem outK_ok (hD : D.length = 24 * n) (h8 : B8 D) : ∀ k, k ≤ n → (outK D L k).length = 24 * k ∧ B8 (outK D L k)
  | 0, _ => ⟨rfl, fun _ h => (List.not_mem_nil h).elim⟩
  | k + 1, hk => by
    obtain ⟨h1, h2⟩ := outK_ok hD h8 k (by omega)
    obtain ⟨h3, h4⟩ := outF_ok (L := L) hD h8 (show k < n by omega)
    rw [outK_succ, List.length_append, h1, h3]
    exact ⟨by omega, h2.append h4⟩
theorem lsF_mem {f x : Nat} (h : x ∈ lsF L f) : ∃ i, i < 24 ∧ x = 24 * f + i ∧ i ∈ erK L f 28 ∧ 4 < (erK L f 28).length := by
  unfold lsF at h
  split at h
  · cases h
  · obtain ⟨i, hi, rfl⟩ := List.mem_map.1 h
    obtain ⟨h1, h2⟩ := List.mem_filter.1 hi
    exact ⟨i, by simpa using h2, rfl, h1, by omega⟩
theorem lsK_mem {k x : Nat} : x ∈ lsK L k ↔ ∃ f, f < k ∧ x ∈ lsF L f := by
  unfold lsK
  rw [List.mem_flatMap]
  simp only [List.mem_range]
theorem lsK_lt {k x : Nat} (h : x ∈ lsK L k) : x < 24 * k := by
  obtain ⟨f, hf, hx⟩ := lsK_mem.1 h
  obtain ⟨i, hi, rfl, _⟩ := lsF_mem hx
  omega
theorem lsK_inc : ∀ k, (lsK L k).Pairwise (· < ·)
  | 0 => List.Pairwise.nil
  | k + 1 => by
    rw [lsK_succ]
    refine List.pairwise_append.2 ⟨lsK_inc k, ?_, fun a ha b hb => ?_⟩
    · unfold lsF
      split
      · exact List.Pairwise.nil
      · exact List.Pairwise.map _ (fun a b (h : a < b) => by show 24 * k + a < 24 * k + b; omega) ((erK_inc L k 28).filter _)
    · have h1 := lsK_lt ha
      obtain ⟨i, hi, rfl, _⟩ := lsF_mem hb
      omega
/-- A byte that is not lost is the one that was encoded. -/
theorem outK_get (hD : D.length = 24 * n) (h8 : B8 D) : ∀ k, k ≤ n → ∀ j, j < 24 * k → j ∉ lsK L k → (outK D L k)[j]? = D[j]?
  | 0, _, j, hj, _ => by omega
  | k + 1, hk, j, hj, hn => by
    obtain ⟨h1, h2⟩ := outK_ok (L := L) hD h8 k (by omega)
    rw [outK_succ]
    rw [lsK_succ] at hn
    by_cases hjk : j < 24 * k
    · rw [List.getElem?_append_left (by omega)]
      exact outK_get hD h8 k (by omega) j hjk (fun h => hn (List.mem_append_left _ h))
    · rw [List.getElem?_append_right (by omega), h1]
      obtain ⟨i, rfl⟩ : ∃ i, j = 24 * k + i := ⟨j - 24 * k, by omega⟩
      rw [Nat.add_sub_cancel_left]
      have hi : i < 24 := by omega
      have hw : ((wordN D k).take 24)[i]? = D[24 * k + i]? := by
        rw [wordN_take hD (by omega), List.getElem?_take_of_lt hi, List.getElem?_drop]
      unfold outF
      split
      · exact hw
      · rename_i h4
        have hg : goneB L (k + 4 * i) = false := by
          cases hc : goneB L (k + 4 * i) with
          | false => rfl
          | true =>
            exfalso
            apply hn
            refine List.mem_append_right _ ?_
            unfold lsF
            rw [if_neg h4]
            exact List.mem_map.2 ⟨i, List.mem_filter.2 ⟨erK_mem.2 ⟨by omega, hc⟩, by simpa using hi⟩, rfl⟩
        rw [List.getElem?_take_of_lt hi, wdK_get (by omega) hg, ← hw, List.getElem?_take_of_lt hi, List.getElem?_eq_getElem (by rw [wordN_length hD (by omega) h8]; omega)]
        rfl
theorem lsK_none {k : Nat} (h : ∀ f, f < k → (erK L f 28).length ≤ 4) : lsK L k = [] := by
  rw [List.eq_nil_iff_forall_not_mem]
  intro x hx
  obtain ⟨f, hf, hx⟩ := lsK_mem.1 hx
  obtain ⟨i, _, _, _, h4⟩ := lsF_mem hx
  have := h f hf
  omega
/-- A word with at most four erased symbols is decoded. -/
theorem word_dec (hD : D.length = 24 * n) (h8 : B8 D) {f : Nat} (hf : f < n) (h4 : (erK L f 28).length ≤ 4) : EraOk (sN (natS (wdK D L f 28))) (wordN D f) 4 (erK L f 28) := by
  rw [sN_natS (wdK_b8 h8 L f 28)]
  have hl := wordN_length hD hf h8
  exact {
    bd := wdK_b8 h8 L f 28
    bc := wordN_b8 h8 f
    len := by rw [wdK_length, hl]
    le := by omega
    p1 := by decide
    code := fun i hi => rsEnc_code (.inr rfl) ((h8.drop _).take _) hi
    lt := fun a ha => by have := (erK_mem.1 ha).1; omega
    nd := nd_lt (erK_inc L f 28)
    off := fun j hj => by
      by_cases hj2 : j < 28
      · have hg : goneB L (f + 4 * j) = false := by
          cases hc : goneB L (f + 4 * j) with
          | false => rfl
          | true => exact absurd (erK_mem.2 ⟨hj2, hc⟩) hj
        rw [wdK_get hj2 hg, List.getElem?_eq_getElem (by omega)]
        rfl
      · rw [List.getElem?_eq_none (by rw [wdK_length]; omega), List.getElem?_eq_none (by omega)]
    few := h4 }
theorem frame_dec (h8 : B8 D) (g : Nat) : EraOk (sN (frameN D n g)) (rsEnc (rowN D n g) 4) 4 [] := by
  obtain ⟨h1, h2⟩ := rsEnc_len (par := 4) (rowN_b8 h8 n g)
  unfold frameN
  rw [sN_natS h2]
  exact {
    bd := h2
    bc := h2
    len := rfl
    le := by rw [h1, rowN_length]; omega
    p1 := by decide
    code := fun i hi => rsEnc_code (.inr rfl) (rowN_b8 h8 n g) hi
    lt := fun a ha => (List.not_mem_nil ha).elim
    nd := List.nodup_nil
    off := fun j hj => rfl
    few := by simp }
end
theorem natS_extract {l : List Nat} (h : B8 l) (k : Nat) : (natS l).extract 0 k = natS (l.take k) := by
  rw [← natS_sN ((natS l).extract 0 k), sN_extract, sN_natS h, List.drop_zero, Nat.sub_zero]
theorem frame_row {D : List Nat} (h8 : B8 D) (n g : Nat) : (natS (rsEnc (rowN D n g) 4)).extract 0 28 = natS (rowN D n g) := by
  rw [natS_extract (rsEnc_len (rowN_b8 h8 n g)).2]
  unfold rsEnc
  rw [List.take_append_of_le_length (by rw [rowN_length]; omega), List.take_of_length_le (by rw [rowN_length]; omega)]
theorem frame_size {D : List Nat} (h8 : B8 D) (n g : Nat) : (frameN D n g).size = 32 := by
  unfold frameN
  rw [natS_size, (rsEnc_len (rowN_b8 h8 n g)).1, rowN_length]
end Go.Proofs.YtlnjphggfbiabaaGreat
