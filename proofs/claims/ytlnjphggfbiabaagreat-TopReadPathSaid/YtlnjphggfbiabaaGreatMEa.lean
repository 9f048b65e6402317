/-
  circ.Encode: plain words; a symbol's store.
-/
import Derived.Test.YtlnjphggfbiabaaGreatMCa
import Derived.Test.YtlnjphggfbiabaaGreatBridge
namespace Go.Proofs.YtlnjphggfbiabaaGreat
open Go.RowKit
set_option linter.unusedVariables false

def strV (l : List ByteArray) : List Value := l.map Value.string
theorem strV_length (l : List ByteArray) : (strV l).length = l.length := by simp [strV]
theorem strV_get {l : List ByteArray} {k : Nat} {x : ByteArray} (h : l[k]? = some x) : (strV l)[k]? = some (.string x) := by simp [strV, h]
theorem strV_snoc (l : List ByteArray) (x : ByteArray) : strV l ++ [.string x] = strV (l ++ [x]) := by simp [strV]
theorem strV_set (l : List ByteArray) (i : Nat) (x : ByteArray) : (strV l).set i (.string x) = strV (l.set i x) := by unfold strV; rw [List.map_set]
theorem info_string : (Tryz.prog.info? 9).map (fun i => (i.zero, i.size, i.bytes)) = some (some (.string ⟨#[]⟩), 1, 16) := by kernel_rfl
/-- A word of the code that is interleaved. -/
def wordN (D : List Nat) (f : Nat) : List Nat := rsEnc ((D.drop (24 * f)).take 24) 4
/-- A cell when k words and i symbols of the next one are placed. -/
def partN (D : List Nat) (k i m : Nat) : Nat := if 4 * (m % 28) ≤ m / 28 ∧ (m / 28 - 4 * (m % 28) < k ∨ (m / 28 - 4 * (m % 28) = k ∧ m % 28 < i)) then (wordN D (m / 28 - 4 * (m % 28)))[m % 28]?.getD 0 else 0
def rowsP (D : List Nat) (N k i : Nat) : List Nat := (List.range (28 * N)).map (partN D k i)
theorem rowsP_length (D : List Nat) (N k i : Nat) : (rowsP D N k i).length = 28 * N := by simp [rowsP]
theorem rowsP_zero (D : List Nat) (N : Nat) : rowsP D N 0 0 = List.replicate (28 * N) 0 := by
  apply List.ext_getElem (by simp [rowsP])
  intro m h1 h2
  simp only [rowsP, List.getElem_map, List.getElem_range, List.getElem_replicate]
  unfold partN
  rw [if_neg (by omega)]
theorem rowsP_next (D : List Nat) (N k : Nat) : rowsP D N k 28 = rowsP D N (k + 1) 0 := by
  unfold rowsP
  refine List.map_congr_left fun m _ => ?_
  unfold partN
  have : (4 * (m % 28) ≤ m / 28 ∧ (m / 28 - 4 * (m % 28) < k ∨ (m / 28 - 4 * (m % 28) = k ∧ m % 28 < 28))) ↔ (4 * (m % 28) ≤ m / 28 ∧ (m / 28 - 4 * (m % 28) < k + 1 ∨ (m / 28 - 4 * (m % 28) = k + 1 ∧ m % 28 < 0))) := by omega
  simp only [this]
theorem rowsP_set (D : List Nat) (N k i : Nat) (hi : i < 28) (hk : k + 4 * i < N) : (rowsP D N k i).set ((k + 4 * i) * 28 + i) ((wordN D k)[i]?.getD 0) = rowsP D N k (i + 1) := by
  apply List.ext_getElem (by simp [rowsP])
  intro m h1 h2
  rw [List.getElem_set]
  simp only [rowsP, List.getElem_map, List.getElem_range]
  by_cases h : (k + 4 * i) * 28 + i = m
  · rw [if_pos h]
    have e1 : m / 28 = k + 4 * i := by omega
    have e2 : m % 28 = i := by omega
    unfold partN
    rw [e1, e2, if_pos (by omega), show k + 4 * i - 4 * i = k by omega]
  · rw [if_neg h]
    unfold partN
    have : (4 * (m % 28) ≤ m / 28 ∧ (m / 28 - 4 * (m % 28) < k ∨ (m / 28 - 4 * (m % 28) = k ∧ m % 28 < i))) ↔ (4 * (m % 28) ≤ m / 28 ∧ (m / 28 - 4 * (m % 28) < k ∨ (m / 28 - 4 * (m % 28) = k ∧ m % 28 < i + 1))) := by omega
    simp only [this]
/-- A row of channel symbols. -/
def rowN (D : List Nat) (count g : Nat) : List Nat := (List.range 28).map fun i => partN D count 0 (g * 28 + i)
def frameN (D : List Nat) (count g : Nat) : ByteArray := natS (rsEnc (rowN D count g) 4)
def encF (D : List Nat) (count : Nat) : List ByteArray := (List.range (count + 108)).map (frameN D count)
theorem wordN_b8 {D : List Nat} (h : B8 D) (f : Nat) : B8 (wordN D f) := (h.drop _).take _ |>.append (remN_b8 (((h.drop _).take _).append (B8.zeros _)))
theorem partN_lt {D : List Nat} (h : B8 D) (k i m : Nat) : partN D k i m < 256 := by
  unfold partN
  split
  · exact (wordN_b8 h _).getD _
  · decide
theorem rowsP_b8 {D : List Nat} (h : B8 D) (N k i : Nat) : B8 (rowsP D N k i) := fun n hn => by
  obtain ⟨m, _, rfl⟩ := List.mem_map.1 hn
  exact partN_lt h _ _ _
theorem rowN_b8 {D : List Nat} (h : B8 D) (k g : Nat) : B8 (rowN D k g) := fun n hn => by
  obtain ⟨m, _, rfl⟩ := List.mem_map.1 hn
  exact partN_lt h _ _ _
theorem rowN_length (D : List Nat) (k g : Nat) : (rowN D k g).length = 28 := by simp [rowN]
theorem enc1_any (i fr gw gr gb N : Nat) (s : ByteArray) (R : List Nat) (w : World) (hw : RowAt w gw 9 #[.string s]) (hr : RowAt w gr 73 #[.slice (some ⟨gb, 0, none⟩) N N]) (hb : RowAt w gb 74 (natV R).toArray)
    (hR : R.length = 28 * N) (hfr : fr < N) (hi : i < 28) (hs : i < s.size) :
    Calls Tryz.prog 33 #[.int .i64 (i : Int), .int .i64 (fr : Int), .pointer (some ⟨gw, 0, none⟩), .pointer (some ⟨gr, 0, none⟩)] w fun e w' => e = .returned (.tuple #[]) ∧ ∃ W, Below w.heap.size w W ∧ w' = W.setCell ⟨gb, fr * 28 + i, none⟩ (.int .u8 (((sN s)[i]?.getD 0 : Nat) : Int)) := by
  have q1 := hw.cell
  have q2 := hr.cell
  have q3 := hb.cell
  have f3 := hb.frozen
  have h0f : (0 : Int) ≤ (fr : Int) := by omega
  have h0i : (0 : Int) ≤ (i : Int) := by omega
  have hfI : (fr : Int) < (N : Int) := by omega
  have hiI : (i : Int) < 28 := by omega
  have hsI : (i : Int) < (s.size : Int) := by omega
  have hx := sN_get hs
  go_enter Tryz.func33, Tryz.ntmps33
  have hx2 : (sN s)[i]?.getD 0 = s[i].toNat := by rw [hx]; rfl
  rw [hx2]
  have HW := Lib.hid hw
  have HR := Lib.hid hr
  have HB := Lib.hid hb
  clear q1 q2 q3 f3 hw hr hb hx hx2
  obtain ⟨x0, hx0⟩ : ∃ x0, R[fr * 28 + i]? = some x0 := ⟨_, List.getElem?_eq_getElem (by omega)⟩
  have HC : Hid (∀ w' : World, RowAt w' gb 74 (natV R).toArray → w'.cell? ⟨gb, fr * 28 + i, none⟩ = some (.int .u8 (x0 : Int))) := Lib.hid (fun w' h => by rw [h.cell, List.getElem?_toArray]; exact natV_get hx0)
  clear hx0
  refine wp_region_any (by kernel_rfl) (wpAny_of_Z (S := fun w' => Below w.heap.size w w') (z := 8) _ _ _ _ ?_)
  have hHeld : Below w.heap.size w (World.drew w) := (Below.refl _ _).drew
  change wpAnyZ _ _ _ _ _ _ _ _ _ (World.drew _)
  refine wpAnyZ_take (i := 0) (oi := ?o1) (v := ?v1) ?hi1 (by kernel_rfl) (by kernel_rfl) (by kernel_rfl) (by kernel_rfl) ?hq1 ?hy1 (by assumption) ?hr1
  case hi1 => (simp only [List.getElem?_toArray, List.getElem?_cons_zero]; rfl)
  case hy1 => ((refine .inl ⟨by rfl, ?_⟩); intro w hS; have qr := (HR.out.below hS HR.out.lt).cell; go_simp; (try with_reducible rfl))
  case hq1 => exact fun _ _ _ h => h
  (try simp only [Act.put, List.setIfInBounds_toArray, List.set_cons_zero, List.set_cons_succ])
  refine wpAnyZ_take (i := 1) (oi := ?o2) (v := ?v2) ?hi2 (by kernel_rfl) (by kernel_rfl) (by kernel_rfl) (by kernel_rfl) ?hq2 ?hy2 (by assumption) ?hr2
  case hi2 => (simp only [List.getElem?_toArray, List.getElem?_cons_succ, List.getElem?_cons_zero]; rfl)
  case hy2 => ((refine .inl ⟨by rfl, ?_⟩); intro w hS; go_simp; (try with_reducible rfl))
  case hq2 => exact fun _ _ _ h => h
  (try simp only [Act.put, List.setIfInBounds_toArray, List.set_cons_zero, List.set_cons_succ])
  refine wpAnyZ_take (i := 2) (oi := ?o3) (v := ?v3) ?hi3 (by kernel_rfl) (by kernel_rfl) (by kernel_rfl) (by kernel_rfl) ?hq3 ?hy3 (by assumption) ?hr3
  case hi3 => (simp only [List.getElem?_toArray, List.getElem?_cons_succ, List.getElem?_cons_zero]; rfl)
  case hy3 => ((refine .inl ⟨by rfl, ?_⟩); intro w hS; go_simp; (try with_reducible rfl))
  case hq3 => exact fun _ _ _ h => h
  (try simp only [Act.put, List.setIfInBounds_toArray, List.set_cons_zero, List.set_cons_succ])
  refine wpAnyZ_take (i := 3) (oi := ?o4) (v := ?v4) ?hi4 (by kernel_rfl) (by kernel_rfl) (by kernel_rfl) (by kernel_rfl) ?hq4 ?hy4 (by assumption) ?hr4
  case hi4 => (simp only [List.getElem?_toArray, List.getElem?_cons_succ, List.getElem?_cons_zero]; rfl)
  case hy4 => ((refine .inl ⟨by rfl, ?_⟩); intro w hS; have qw := (HW.out.below hS HW.out.lt).cell; go_simp; (try with_reducible rfl))
  case hq4 => exact fun _ _ _ h => h
  (try simp only [Act.put, List.setIfInBounds_toArray, List.set_cons_zero, List.set_cons_succ])
  refine wpAnyZ_take (i := 4) (oi := ?o5) (v := ?v5) ?hi5 (by kernel_rfl) (by kernel_rfl) (by kernel_rfl) (by kernel_rfl) ?hq5 ?hy5 (by assumption) ?hr5
  case hi5 => (simp only [List.getElem?_toArray, List.getElem?_cons_succ, List.getElem?_cons_zero]; rfl)
  case hy5 => ((refine .inl ⟨by rfl, ?_⟩); intro w hS; go_simp; (try with_reducible rfl))
  case hq5 => exact fun _ _ _ h => h
  (try simp only [Act.put, List.setIfInBounds_toArray, List.set_cons_zero, List.set_cons_succ])
  refine wpAnyZ_take (i := 5) (oi := ?o6) (v := ?v6) ?hi6 (by kernel_rfl) (by kernel_rfl) (by kernel_rfl) (by kernel_rfl) ?hq6 ?hy6 (by assumption) ?hr6
  case hi6 => (simp only [List.getElem?_toArray, List.getElem?_cons_succ, List.getElem?_cons_zero]; rfl)
  case hy6 => ((refine .inl ⟨by rfl, ?_⟩); intro w hS; go_simp; (try with_reducible rfl))
  case hq6 => exact fun _ _ _ h => h
  (try simp only [Act.put, List.setIfInBounds_toArray, List.set_cons_zero, List.set_cons_succ])
  refine wpAnyZ_one (i := 6) (by kernel_rfl) rfl (by kernel_rfl) (fun K hK => ?_)
  go_simp
  refine hK.out _ _ (hHeld) (fun hHeld => ?_)
  clear hK K
  (try simp only [Act.put, List.setIfInBounds_toArray, List.set_cons_zero, List.set_cons_succ])
  refine wpAnyZ_take (i := 7) (oi := ?o7) (v := ?v7) ?hi7 (by kernel_rfl) (by kernel_rfl) (by kernel_rfl) (by kernel_rfl) ?hq7 ?hy7 (by assumption) ?hr7
  case hi7 => (simp only [List.getElem?_toArray, List.getElem?_cons_succ, List.getElem?_cons_zero]; rfl)
  case hy7 => ((refine .inl ⟨by rfl, ?_⟩); intro w hS; go_simp; (try with_reducible rfl))
  case hq7 => exact fun _ _ _ h => h
  (try simp only [Act.put, List.setIfInBounds_toArray, List.set_cons_zero, List.set_cons_succ])
  refine wpAnyZ_last (by kernel_rfl) rfl (fun K hK => ?_)
  have HHB := Lib.hid hHeld; have qb := HC.out _ (HB.out.below hHeld HB.out.lt); have fb := (HB.out.below hHeld HB.out.lt).frozen; go_simp
  refine hK.out _ _ ?_
  clear hK K
  (try simp only [Act.put])
  refine wpAnyZ_done (by kernel_rfl) ?_ _
  go_wp2_with fail
  go_end0
  exact ⟨rfl, _, HHB.out, rfl⟩
end Go.Proofs.YtlnjphggfbiabaaGreat
