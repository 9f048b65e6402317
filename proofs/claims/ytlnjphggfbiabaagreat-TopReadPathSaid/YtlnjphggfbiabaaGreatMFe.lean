/-
  productcode: sets of places (map[int]bool): set, positions, release.
-/
import Derived.Test.YtlnjphggfbiabaaGreatMFd
import Derived.Maps.OwnSet
import Derived.Carry
import Derived.Lib.SliceRun
import Derived.BigFrame
namespace Go.Proofs.YtlnjphggfbiabaaGreat
open Go.RowKit Go.Maps
set_option linter.unusedVariables false

theorem keyed_int : Keyed Tryz.prog 3 := int_keyed Tryz.underlying3
theorem zero_bool (w : World) : (zeroValue 4).run Tryz.prog w = .ok (.bool false) w := by kernel_rfl
theorem wf_small {n : Int} (h0 : 0 ≤ n) (h1 : n ≤ 1000000) : (Lit.int .i64 n).wf = true := by
  simp [Lit.wf, IntKind.min, IntKind.max, IntKind.signed, IntKind.bits]
  omega
theorem key_small {a : Nat} (h : a ≤ 1000000) : keyOf Tryz.prog 3 (.int .i64 (a : Int)) = some (.int .i64 (a : Int)) := keyOf_int_mk Tryz.underlying3 (wf_small (by omega) (by omega))
abbrev DU := DataW Unit
def kyL (a : Nat) : Lit := .int .i64 (a : Int)
/-- The map holds just the places of a list, each true. -/
def SetIs (D : DU) (l : List Nat) : Prop := Tidy D ∧ l.Nodup ∧ Maps.size D = l.length ∧ ∀ a : Nat, Maps.has D (kyL a) = decide (a ∈ l) ∧ (a ∈ l → ∀ z, D.atKey (kyL a) z = .lit (.bool true))
theorem ky_ne {a b : Nat} (h : a ≠ b) : kyL a ≠ kyL b := fun e => by
  injection e with _ e
  exact h (by omega)
theorem SetIs.empty : SetIs (.map []) [] := ⟨tidy_empty, List.nodup_nil, rfl, fun a => ⟨rfl, fun h => (List.not_mem_nil h).elim⟩⟩
theorem SetIs.put {D : DU} {l : List Nat} (h : SetIs D l) {a : Nat} (ha : a ∉ l) : SetIs (D.put (kyL a) (.lit (.bool true))) (l ++ [a]) := by
  obtain ⟨h1, h2, h3, h4⟩ := h
  have hk : WideAt.IsKeyLit (kyL a) := trivial
  have hf : Maps.has D (kyL a) = false := by rw [(h4 a).1]; simpa using ha
  refine ⟨h1.put hk _, List.nodup_append.2 ⟨h2, by simp, fun x hx y hy => ?_⟩, ?_, fun b => ?_⟩
  · rw [List.mem_singleton.1 hy]
    intro e
    subst e
    exact ha hx
  · rw [size_put h1, hf, List.length_append, h3]
    rfl
  · by_cases e : b = a
    · subst e
      rw [has_put_same h1.isMap hk]
      exact ⟨by simp, fun _ z => atKey_put_same h1.isMap hk _ z⟩
    · rw [has_put_other (ky_ne e)]
      refine ⟨by rw [(h4 b).1]; simp [e], fun hm z => ?_⟩
      rw [atKey_put_other (ky_ne e)]
      rcases List.mem_append.1 hm with hm | hm
      · exact (h4 b).2 hm z
      · exact absurd (List.mem_singleton.1 hm) e
theorem SetIs.del {D : DU} {l : List Nat} (h : SetIs D l) (a : Nat) : SetIs (D.del (kyL a)) (l.filter fun b => decide (b ≠ a)) := by
  obtain ⟨h1, h2, h3, h4⟩ := h
  refine ⟨h1.del _, h2.filter _, ?_, fun b => ?_⟩
  · have hs := size_del (k := kyL a) h1
    rw [(h4 a).1, h3] at hs
    by_cases hm : a ∈ l
    · have e : (l.filter fun b => decide (b ≠ a)) = l.erase a := by
        rw [h2.erase_eq_filter]
        refine List.filter_congr fun x _ => ?_
        by_cases e : x = a
        · subst e; simp
        · simp [e]
      rw [e, List.length_erase_of_mem hm]
      simp [hm] at hs
      omega
    · have e : (l.filter fun b => decide (b ≠ a)) = l := List.filter_eq_self.2 fun x hx => by
        have : x ≠ a := fun e => hm (e ▸ hx)
        simpa using this
      rw [e]
      simp [hm] at hs
      exact hs
  · by_cases e : b = a
    · subst e
      rw [has_del_same]
      exact ⟨by simp, fun hm => by simp at hm⟩
    · rw [has_del_other (ky_ne e), (h4 b).1]
      refine ⟨by simp [e], fun hm z => ?_⟩
      rw [atKey_del_other (ky_ne e)]
      exact (h4 b).2 (List.mem_filter.1 hm).1 z
theorem plainElem_bool_inv {H : Type} {P : Program} {e : TypeId} (he : P.underlying e = some .bool) {v : Value} {z : DataW H × List MemPlace} (h : plainElem P e v = some z) : ∃ x, v = .bool x ∧ z = (.lit (.bool x), []) := by
  unfold plainElem at h
  rw [he] at h
  cases v <;> simp at h
  exact ⟨_, rfl, h.symm⟩
theorem lit_bool {x y : Bool} (h : (DataW.lit (H := Unit) (.bool x)) = .lit (.bool y)) : y = x := by
  injection h with h
  injection h with h
  exact h.symm
/-- A block that is such a map. -/
def SetAt (w : World) (b n : Nat) (l : List Nat) : Prop := ∃ D : DU, w.ownsMap Tryz.prog 3 (plainElem Tryz.prog 4) b n D ∧ SetIs D l
theorem SetAt.lt {w : World} {b n : Nat} {l : List Nat} (h : SetAt w b n l) : b < w.heap.size := let ⟨_, h, _⟩ := h; h.lt
theorem SetAt.nd {w : World} {b n : Nat} {l : List Nat} (h : SetAt w b n l) : l.Nodup := let ⟨_, _, h⟩ := h; h.2.1
theorem SetAt.kept {w w' : World} {b n : Nat} {l : List Nat} {row : Option Nat} (h : SetAt w b n l) (hg : w.grownBy w' row) (hne : some b ≠ row) : SetAt w' b n l := let ⟨D, h, k⟩ := h; ⟨D, h.kept hg hne, k⟩
theorem SetAt.below {w w' : World} {b n B : Nat} {l : List Nat} (h : SetAt w b n l) (hb : Below B w w') (hB : b < B) : SetAt w' b n l := by
  obtain ⟨D, h, k⟩ := h
  obtain ⟨es, clock, hh, r⟩ := h
  exact ⟨D, ⟨es, clock, (hb.block b hB).trans hh, r⟩, k⟩
theorem SetAt.look {w : World} {b n : Nat} {l : List Nat} (h : SetAt w b n l) {a : Nat} (ha : a ≤ 1000000) : (Instr.lookup 79 (.map (some b)) (.int .i64 (a : Int)) false).run Tryz.prog w = .ok (.bool (decide (a ∈ l))) w := by
  obtain ⟨D, hD, h1, h2, h3, h4⟩ := h
  obtain ⟨v, ps, hrun, hv⟩ := hD.lookup keyed_int Tryz.underlying79 (zero_bool w) (plainElem_bool Tryz.underlying4 false) (key_small ha)
  have e : D.atKey (kyL a) (.lit (.bool false)) = .lit (.bool (decide (a ∈ l))) := by
    by_cases hm : a ∈ l
    · rw [(h4 a).2 hm]; simp [hm]
    · rw [atKey_of_not_has (by rw [(h4 a).1]; simpa using hm)]; simp [hm]
  have hv2 : plainElem Tryz.prog 4 v = some (DataW.lit (H := Unit) (.bool (decide (a ∈ l))), ps) := by rw [← e]; exact hv
  obtain ⟨x, hx, hz⟩ := plainElem_bool_inv Tryz.underlying4 hv2
  have hz1 := congrArg Prod.fst hz
  exact hrun.trans (by rw [hx, lit_bool hz1])
theorem SetAt.len {w : World} {b n : Nat} {l : List Nat} (h : SetAt w b n l) (ty : TypeId) : (Builtin.len_ #[79] ty #[.map (some b)]).run Tryz.prog w = .ok (.int .i64 (l.length : Int)) w := by
  obtain ⟨D, hD, h1, h2, h3, h4⟩ := h
  rw [← h3]
  exact hD.len Tryz.underlying79 ty
theorem SetAt.made (w : World) : SetAt (w.alloc (.map #[] 0)) w.heap.size 0 [] := ⟨.map [], World.ownsMap_made w _ _ _, SetIs.empty⟩
/-! ### positions, release -/
def posN (wl l : List Nat) (k : Nat) : List Nat := (List.range k).filter fun i => decide (wl[i]?.getD 0 ∈ l)
theorem posN_hit {wl l : List Nat} {k a : Nat} (h : wl[k]? = some a) (hm : a ∈ l) : posN wl l (k + 1) = posN wl l k ++ [k] := by
  unfold posN
  rw [List.range_succ, List.filter_append]
  simp [h, hm]
theorem posN_miss {wl l : List Nat} {k a : Nat} (h : wl[k]? = some a) (hm : a ∉ l) : posN wl l (k + 1) = posN wl l k := by
  unfold posN
  rw [List.range_succ, List.filter_append]
  simp [h, hm]
theorem posN_len (wl l : List Nat) (k : Nat) : (posN wl l k).length ≤ k := by
  unfold posN
  exact Nat.le_trans (List.length_filter_le _ _) (by simp)
set_option maxRecDepth 100000 in
set_option maxHeartbeats 4000000 in
theorem positions_any (wl l : List Nat) (A : Option Addr) (c b n : Nat) (w : World) (h : SlAt w w.heap.size A (posV wl)) (hs : SetAt w b n l) (hl : wl.length ≤ 100) (hlt : ∀ a ∈ wl, a ≤ 1000000) :
    Calls Tryz.prog 41 #[.slice A wl.length c, .map (some b)] w fun e w' => Below w.heap.size w w' ∧ ∃ A2 c2, e = .returned (.slice A2 (posN wl l wl.length).length c2) ∧ w'.ownsRow w.heap.size 3 1 (.slice A2 (posN wl l wl.length).length c2) (posN wl l wl.length).length (posV (posN wl l wl.length)) := by
  have HS := Lib.hid h
  have HT := Lib.hid hs
  have HLT := Lib.hid hlt
  obtain ⟨m, hm⟩ : ∃ m, wl.length = m := ⟨_, rfl⟩
  have HM := Lib.hid hm
  rw [hm] at hl ⊢
  clear h hs hlt hm
  go_enter Tryz.func41, Tryz.ntmps41
  go_wp2_with fail
  go_loopw [5, 10] (fun v i wr => ∃ (k : Nat) (A2 : Option Addr) (c2 : Nat), k ≤ m ∧ i = .int .i64 (k : Int) ∧ v = .slice A2 (posN wl l k).length c2 ∧ wr.ownsRow w.heap.size 3 1 (.slice A2 (posN wl l k).length c2) (posN wl l k).length (posV (posN wl l k)) ∧ Below w.heap.size w wr) (fun _ i _ => m - (intOf i).toNat)
  case atStart => exact ⟨0, none, 0, by omega, rfl, rfl, World.ownsRow_nil _ _ _ _, Below.refl _ _⟩
  case round =>
    obtain ⟨k, A2, c2, hk, rfl, rfl, hown, hbel⟩ := hrel
    have HO := Lib.hid hown
    have HB := Lib.hid hbel
    by_cases hkm : k < m
    · obtain ⟨a, ha⟩ : ∃ a, wl[k]? = some a := ⟨wl[k]'(by rw [HM.out]; exact hkm), List.getElem?_eq_getElem _⟩
      have ha6 := HLT.out a (List.mem_of_getElem? ha)
      obtain ⟨b1, o1, hA1, _⟩ := HS.out.posAddr (by rw [HM.out]; omega)
      subst hA1
      have q1 := (HS.out.below hbel).pos rfl ha
      have hlk := (HT.out.below hbel HT.out.lt).look ha6
      have hbs := hbel.size
      have hpl := posN_len wl l k
      have hkI : (k : Int) < (m : Int) := by omega
      have h0k : (0 : Int) ≤ (k : Int) := by omega
      clear hown hbel
      by_cases hin : a ∈ l
      · have HP := Lib.hid (posN_hit ha hin)
        rw [show decide (a ∈ l) = true by simpa using hin] at hlk
        obtain ⟨pl, hpl2⟩ : ∃ pl, (posN wl l k).length = pl := ⟨_, rfl⟩
        have HPL := Lib.hid hpl2
        rw [hpl2] at HO hpl ⊢
        clear ha hin hpl2
        go_wp2_with (at_builtin; refine wpList_app1 HO.out info_intp Tryz.underlying29 rfl (by unfold maxLen; omega) (by omega) hbs rfl rfl rfl (by rfl) (by rfl) ?_; intro v5 w6 hown6 hb6 hg6; obtain ⟨A6, c6, hv6⟩ := own_slice hown6; subst hv6; have HO6 := Lib.hid hown6; have HB6 := Lib.hid (HB.out.trans hb6); clear hown6 hb6 hg6)
        go_roundw
        case rel =>
          have h9 := HO6.out
          have e9 : pl + 1 = (posN wl l (k + 1)).length := by rw [HP.out, List.length_append, HPL.out]; rfl
          rw [posV_snoc, ← HP.out, e9] at h9
          exact ⟨k + 1, A6, c6, by omega, by go_num, by rw [e9], h9, HB6.out⟩
        case measure => simp [intOf]; omega
      · have HP := Lib.hid (posN_miss ha hin)
        rw [show decide (a ∈ l) = false by simpa using hin] at hlk
        clear ha hin
        go_wp2_with fail
        go_roundw
        case rel =>
          have h9 := HO.out
          rw [← HP.out] at h9
          exact ⟨k + 1, A2, c2, by omega, by go_num, by rw [HP.out], h9, HB.out⟩
        case measure => simp [intOf]; omega
    · obtain rfl : k = m := by omega
      have hkI : ¬ (k : Int) < (k : Int) := by omega
      clear hown hbel
      go_wp2_with fail
      go_ret
      exact ⟨HB.out, A2, c2, rfl, HO.out⟩
def relK (wl l : List Nat) (k : Nat) : List Nat := l.filter fun b => decide (b ∉ wl.take k)
theorem relK_next {wl l : List Nat} {k a : Nat} (h : wl[k]? = some a) : (relK wl l k).filter (fun b => decide (b ≠ a)) = relK wl l (k + 1) := by
  unfold relK
  rw [List.filter_filter]
  refine List.filter_congr fun b _ => ?_
  rw [List.take_add_one, h]
  simp [and_comm, not_or]
set_option maxRecDepth 100000 in
set_option maxHeartbeats 4000000 in
theorem release_any (wl l : List Nat) (A : Option Addr) (c b n : Nat) (w : World) (h : w.ownsRow 0 3 1 (.slice A wl.length c) wl.length (posV wl)) (hs : SetAt w b n l) (hl : wl.length ≤ 100) (hlt : ∀ a ∈ wl, a ≤ 1000000) :
    Calls Tryz.prog 42 #[.slice A wl.length c, .map (some b)] w fun e w' => e = .returned (.tuple #[]) ∧ w.grownBy w' (some b) ∧ SetAt w' b n (relK wl l wl.length) := by
  have HS := Lib.hid h
  have HT := Lib.hid hs
  have HLT := Lib.hid hlt
  obtain ⟨m, hm⟩ : ∃ m, wl.length = m := ⟨_, rfl⟩
  have HM := Lib.hid hm
  rw [hm] at hl HS ⊢
  clear h hs hlt hm
  go_enter Tryz.func42, Tryz.ntmps42
  go_wp2_with fail
  go_loopw [8] (fun i wr => ∃ (k : Nat), k ≤ m ∧ i = .int .i64 (k : Int) ∧ w.grownBy wr (some b) ∧ SetAt wr b n (relK wl l k) ∧ wr.ownsRow 0 3 1 (.slice A m c) m (posV wl)) (fun i _ => m - (intOf i).toNat)
  case atStart =>
    have e0 : relK wl l 0 = l := List.filter_eq_self.2 fun x hx => by simp
    exact ⟨0, by omega, rfl, grownBy_refl w _, by rw [e0]; exact HT.out, HS.out⟩
  case round =>
    obtain ⟨k, hk, rfl, hgb, hst, how⟩ := hrel
    have HG := Lib.hid hgb
    have HST := Lib.hid hst
    have HO := Lib.hid how
    by_cases hkm : k < m
    · obtain ⟨a, ha⟩ : ∃ a, wl[k]? = some a := ⟨wl[k]'(by rw [HM.out]; exact hkm), List.getElem?_eq_getElem _⟩
      have ha6 := HLT.out a (List.mem_of_getElem? ha)
      have hsl := SlAt.of_own' how (Nat.le_refl _)
      obtain ⟨b1, o1, hA1, _⟩ := hsl.posAddr (by rw [HM.out]; omega)
      subst hA1
      have q1 := hsl.pos rfl ha
      have HKY := Lib.hid (key_small ha6)
      have HR := Lib.hid (relK_next (l := l) ha)
      obtain ⟨D, hD, hDI⟩ := hst
      have HD := Lib.hid hD
      have HDI := Lib.hid hDI
      have hkI : (k : Int) < (m : Int) := by omega
      have h0k : (0 : Int) ≤ (k : Int) := by omega
      clear hgb how ha hsl hD hDI
      go_wp2_with (at_delete; refine wpList_delete_own _ rfl _ _ 79 3 rfl 4 keyed_int Tryz.underlying79 _ b n D rfl HD.out _ _ rfl HKY.out ?_; intro w1 hown1 hturn1; have HD1 := Lib.hid hown1; have HT1 := Lib.hid hturn1.grown; clear hown1 hturn1)
      go_roundw
      case rel =>
        have h9 := HDI.out.del a
        rw [HR.out] at h9
        refine ⟨k + 1, by omega, by go_num, ?_, ⟨_, HD1.out, h9⟩, HO.out.kept HT1.out (.inr ?_)⟩
        · exact ⟨HT1.out.os.trans HG.out.os, HT1.out.tape.trans HG.out.tape, HT1.out.output.trans HG.out.output, Nat.le_trans HG.out.size HT1.out.size, fun i hi hne => (HT1.out.block i (Nat.lt_of_lt_of_le hi HG.out.size) hne).trans (HG.out.block i hi hne)⟩
        · intro e
          rcases HO.out.2 with ⟨h1, _⟩ | ⟨g, cap, cur, h1, _, h2, _⟩
          · cases h1
          · injection h1 with h1 _ _
            injection h1 with h1
            injection h1 with h1 _ _
            injection e with e
            obtain ⟨es, clock, h3, _⟩ := HD.out
            have e2 : b1 = b := e
            rw [← h1, e2, h3] at h2
            cases h2
      case measure => simp [intOf]; omega
    · obtain rfl : k = m := by omega
      have hkI : ¬ (k : Int) < (k : Int) := by omega
      clear hgb how hst
      go_wp2_with fail
      go_end0
      exact ⟨rfl, HG.out, HST.out⟩
end Go.Proofs.YtlnjphggfbiabaaGreat

/-
  productcode: set; a loop over an iterator whose body writes maps, too.
-/
namespace Go.Proofs.YtlnjphggfbiabaaGreat
open Go.RowKit Go.Maps
set_option linter.unusedVariables false

set_option maxRecDepth 100000 in
set_option maxHeartbeats 4000000 in
theorem set_any (er : List Nat) (A : Option Addr) (c : Nat) (w : World) (h : SlAt w w.heap.size A (posV er)) (hp : er.Pairwise (· < ·)) (hlt : ∀ a ∈ er, 12 ≤ a ∧ a < 2352) (hl : er.length ≤ 3000) :
    Calls Tryz.prog 39 #[.int .i64 12, .slice A er.length c] w fun e w' => Below w.heap.size w w' ∧ ∃ b, w.heap.size ≤ b ∧ e = .returned (.tuple #[.map (some b), .bool true]) ∧ SetAt w' b er.length er := by
  have HS := Lib.hid h
  have HP := Lib.hid hp
  have HLT := Lib.hid hlt
  obtain ⟨m, hm⟩ : ∃ m, er.length = m := ⟨_, rfl⟩
  have HM := Lib.hid hm
  rw [hm] at hl ⊢
  have hmm := @run_makeMap Tryz.prog
  clear h hp hlt hm
  go_enter Tryz.func39, Tryz.ntmps39
  go_wp2_with fail
  go_loopw [12] (fun i wr => ∃ k : Nat, k ≤ m ∧ i = .int .i64 (k : Int) ∧ SetAt wr w.heap.size k (er.take k) ∧ Below w.heap.size w wr) (fun i _ => m - (intOf i).toNat)
  case atStart => exact ⟨0, by omega, rfl, SetAt.made w, (Below.refl _ _).alloc (Nat.le_refl _) _⟩
  case round =>
    obtain ⟨k, hk, rfl, hst, hbel⟩ := hrel
    have HST := Lib.hid hst
    have HB := Lib.hid hbel
    by_cases hkm : k < m
    · obtain ⟨a, ha⟩ : ∃ a, er[k]? = some a := ⟨er[k]'(by rw [HM.out]; exact hkm), List.getElem?_eq_getElem _⟩
      obtain ⟨h12, hax⟩ := HLT.out a (List.mem_of_getElem? ha)
      obtain ⟨b1, o1, hA1, _⟩ := HS.out.posAddr (by rw [HM.out]; omega)
      subst hA1
      have q1 := (HS.out.below hbel).pos rfl ha
      have HKY := Lib.hid (key_small (show a ≤ 1000000 by omega))
      have hni : a ∉ er.take k := fun hin => by
        obtain ⟨j, hj⟩ := List.mem_iff_getElem?.1 hin
        have hjk : j < k := by
          have := (List.getElem?_eq_some_iff.1 hj).1
          rw [List.length_take] at this
          omega
        rw [List.getElem?_take_of_lt hjk] at hj
        obtain ⟨h1, h2⟩ := List.getElem?_eq_some_iff.1 hj
        obtain ⟨h3, h4⟩ := List.getElem?_eq_some_iff.1 ha
        have := List.pairwise_iff_getElem.1 HP.out j k h1 h3 hjk
        omega
      have HNI := Lib.hid hni
      have HTK : Hid (er.take (k + 1) = er.take k ++ [a]) := Lib.hid (by rw [List.take_add_one, ha]; rfl)
      obtain ⟨D, hD, hDI⟩ := hst
      have HD := Lib.hid hD
      have HDI := Lib.hid hDI
      have hkI : (k : Int) < (m : Int) := by omega
      have h0k : (0 : Int) ≤ (k : Int) := by omega
      have hb1 : ¬ (a : Int) < 12 := by omega
      have hb2 : ¬ (2352 : Int) ≤ (a : Int) := by omega
      by_cases hk0 : k = 0
      · subst hk0
        rw [Nat.add_zero] at q1
        have hm0 : (0 : Int) < (m : Int) := by omega
        clear hbel ha hni hD hDI HST
        go_wp2_with (at_mapUpdate; refine wpList_mapUpdate_own _ rfl _ _ _ 79 rfl 3 4 keyed_int Tryz.underlying79 _ w.heap.size 0 _ rfl HD.out (by unfold maxLen; omega) _ _ _ rfl rfl HKY.out _ [] (plainElem_bool Tryz.underlying4 true) ?_; intro w1 hown1 hgrow1; have HD1 := Lib.hid hown1; have HB1 := Lib.hid (HB.out.grown hgrow1 HB.out.size (fun j hj => by cases hj; exact Nat.le_refl _)); clear hown1 hgrow1)
        go_roundw
        case rel => exact ⟨1, by omega, by go_num, ⟨_, HD1.out, by rw [show er.take 1 = er.take 0 ++ [a] from HTK.out]; exact HDI.out.put HNI.out⟩, HB1.out⟩
        case measure => simp [intOf]; omega
      · have hk0I : (0 : Int) < (k : Int) := by omega
        obtain ⟨p, hp⟩ : ∃ p, er[k - 1]? = some p := ⟨er[k - 1]'(by rw [HM.out]; omega), List.getElem?_eq_getElem _⟩
        have hpa : p < a := by
          obtain ⟨h1, h2⟩ := List.getElem?_eq_some_iff.1 hp
          obtain ⟨h3, h4⟩ := List.getElem?_eq_some_iff.1 ha
          have := List.pairwise_iff_getElem.1 HP.out (k - 1) k h1 h3 (by omega)
          omega
        have q2 := (HS.out.below hbel).pos rfl hp
        have hb3 : ¬ (a : Int) ≤ (p : Int) := by omega
        have hkm1 : (0 : Int) ≤ (k : Int) - 1 := by omega
        have hkm2 : (k : Int) - 1 < (m : Int) := by omega
        have hkm3 : ((k : Int) - 1).toNat = k - 1 := by omega
        have hkm4 : 1 ≤ (k : Int) := by omega
        clear hbel ha hni hD hDI HST hp hpa
        go_wp2_with (at_mapUpdate; refine wpList_mapUpdate_own _ rfl _ _ _ 79 rfl 3 4 keyed_int Tryz.underlying79 _ w.heap.size k _ rfl HD.out (by unfold maxLen; omega) _ _ _ rfl rfl HKY.out _ [] (plainElem_bool Tryz.underlying4 true) ?_; intro w1 hown1 hgrow1; have HD1 := Lib.hid hown1; have HB1 := Lib.hid (HB.out.grown hgrow1 HB.out.size (fun j hj => by cases hj; exact Nat.le_refl _)); clear hown1 hgrow1)
        go_roundw
        case rel => exact ⟨k + 1, by omega, by go_num, ⟨_, HD1.out, by rw [HTK.out]; exact HDI.out.put HNI.out⟩, HB1.out⟩
        case measure => simp [intOf]; omega
    · obtain rfl : k = m := by omega
      have hkI : ¬ (k : Int) < (k : Int) := by omega
      clear hst hbel
      go_wp2_with fail
      go_ret2
      have h9 := HST.out
      rw [List.take_of_length_le (by rw [HM.out]; exact Nat.le_refl _)] at h9
      exact ⟨HB.out, w.heap.size, Nat.le_refl _, rfl, h9⟩
/-! ### Rounds that write cells and maps -/
structure KeepsNM (W W' : World) : Prop where
  size : W.heap.size ≤ W'.heap.size
  same : ∀ (k : Nat) (o : Obj), W.heap[k]? = some o → o.isCells = false → (∀ es c, o ≠ .map es c) → W'.heap[k]? = some o
theorem KeepsNM.refl (W : World) : KeepsNM W W := ⟨Nat.le_refl _, fun _ _ h _ _ => h⟩
theorem KeepsNM.trans {A B C : World} (h : KeepsNM A B) (k : KeepsNM B C) : KeepsNM A C := ⟨Nat.le_trans h.size k.size, fun j o hj ho hm => k.same j o (h.same j o hj ho hm) ho hm⟩
theorem KeepsNM.of {A B : World} (h : KeepsOthers A B) : KeepsNM A B := ⟨h.size, fun j o hj ho _ => h.same j o hj ho⟩
theorem KeepsNM.map {A B : World} {b n : Nat} {l : List Nat} (h : SetAt A b n l) (hg : A.grownBy B (some b)) : KeepsNM A B := ⟨hg.size, fun j o hj ho hm => by
  by_cases e : j = b
  · subst e
    obtain ⟨D, ⟨es, clock, hb, _⟩, _⟩ := h
    rw [hb] at hj
    injection hj with hj
    exact absurd hj.symm (hm es clock)
  · exact (hg.block j (Array.getElem?_eq_some_iff.1 hj).1 (fun e2 => e (Option.some.inj e2))).trans hj⟩
section
variable {F : Fence} {n : Nat} {P : Program} {α β : Type}
def SeqOwnM (F : Fence) (n : Nat) (P : Program) (g : Nat) (lb : Array Value) (encs : α → Array Value) (I : β → List α → World → Prop) (Px : List α → α → World → Prop) (σ0 : β) (S : β → List α → Prop) : Prop :=
  ∀ (l : Nat) (X : World → Prop) (W : World), (∀ A B, X A → KeepsNM A B → X B) →
    (∀ σ pre x W1, I σ pre W1 → Px pre x W1 → X W1 → YieldAt F (n - 1) P l (encs x) W1 fun e W' => e = .returned (.bool true) ∧ I σ (pre ++ [x]) W' ∧ X W') →
    I σ0 [] W → X W →
    CallsIn F n P g (#[.func (.yield l) #[] #[]] ++ lb) W fun e W' => (∃ v, e = .returned v) ∧ ∃ σ xs, S σ xs ∧ I σ xs W' ∧ X W'
theorem SeqOwn.m {g : Nat} {lb : Array Value} {encs : α → Array Value} {I : β → List α → World → Prop} {Px : List α → α → World → Prop} {σ0 : β} {S : β → List α → Prop} (h : SeqOwn F n P g lb encs I Px σ0 S) : SeqOwnM F n P g lb encs I Px σ0 S :=
  fun l X W hX hY hI hXW => h l X W (fun A B hA hk => hX A B hA (KeepsNM.of hk)) hY hI hXW
theorem range_ownM {g : Operand} {ps : Array Tmp} {assign body : Code} {Q : Exit → Act → World → Prop} {a : Act} {w : World}
    (hro : F.round = none) (h1 : 1 ≤ n) {gf : Nat} {lb : Array Value} (hg : a.eval g = .func (.func gf) #[] lb) (hFg : F.fn gf) (eg : ∀ args w, (callFunc gf args).run P w = .ok (.enter gf args) w)
    {encs : α → Array Value} (hps : ∀ x, (encs x).size = ps.size) {I : β → List α → World → Prop} {Px : List α → α → World → Prop} {σ0 : β} {S : β → List α → Prop}
    (hseq : SeqOwnM F (n - 1) P gf lb encs I Px σ0 S) (hI : ∀ σ, OwnFrom w.heap.size (I σ)) (hP : ∀ pre, OwnFrom w.heap.size (Px pre)) (h0 : I σ0 [] w) (a₁ : α → Act)
    (hassign : ∀ (l : Nat) (x : α) (W : World) (K : Act → World → Prop), K (a₁ x) W →
      assign.wpIn (F.inRound l) (n - 1 - 1) P (Exit.then K (fun _ _ _ => False)) { tmps := (ps.zip (encs x)).foldl (fun t (p, v) => t.setIfInBounds p v) a.tmps, defers := [] } W)
    (hbody : ∀ (l : Nat) (σ : β) (pre : List α) (x : α) (W : World), I σ pre W → Px pre x W → body.wpIn (F.inRound l) (n - 1 - 1) P (goesOn fun W' => KeepsNM W W' ∧ I σ (pre ++ [x]) W') (a₁ x) W)
    (hdone : ∀ (D : Nat) (σ : β) (xs : List α) (W : World), w.heap.size ≤ D → S σ xs → I σ xs W → W.heap[D]? = some (.deferred (some [])) → Q .normal { a with defers := { target := .collected D, args := #[] } :: a.defers } W) :
    (Code.rangeFunc g ps assign body).wpIn F n P Q a w := by
  refine wpIn_rangeFunc fun fn hfn => ?_
  rw [hro]
  let D := w.heap.size
  let rec0 : LoopState → Loop := fun st => { state := st, pending := none, fn, tmps := a.tmps, params := ps, assign, body, defers := D }
  let W0 := (w.alloc (.deferred (some []))).alloc (.loop (rec0 .ready))
  have hD : D = w.heap.size := rfl
  have hL : W0.heap[D + 1]? = some (.loop (rec0 .ready)) := by
    have := World.alloc_heap_new (w.alloc (.deferred (some []))) (.loop (rec0 .ready))
    rwa [World.size_alloc] at this
  have hK : W0.heap[D]? = some (.deferred (some [])) := (Below.heap_alloc _ _ _ (by simp [D])).trans (World.alloc_heap_new w _)
  have hI0 : I σ0 [] W0 := (hI σ0).alloc _ ((hI σ0).alloc _ h0)
  -- what the rounds keep of the loop's two blocks
  let X : World → Prop := fun W => W.heap[D + 1]? = some (.loop (rec0 .ready)) ∧ W.heap[D]? = some (.deferred (some []))
  have hX : ∀ A B, X A → KeepsNM A B → X B := fun A B h k => ⟨k.same _ _ h.1 rfl (fun _ _ e => by cases e), k.same _ _ h.2 rfl (fun _ _ e => by cases e)⟩
  refine ⟨D + 1, [{ target := .collected D, args := #[] }], W0, { target := .fn (.func gf) lb, args := #[.func (.yield (D + 1)) #[] #[]] }, W0, gf, #[.func (.yield (D + 1)) #[] #[]] ++ lb, W0, run_enterLoop_outer _ _ _ _ _, ?_, ?_, ?_, fun _ => h1, ?_⟩
  · simp only [resolve, hg]
    simp [go_sem]
  · intro f' hf'
    simp [Target.leads] at hf'
    subst hf'
    exact hFg
  · simp [invoke, go_sem, eg]
  · refine (hseq (D + 1) X W0 hX ?_ hI0 ⟨hL, hK⟩).mono ?_
    · rintro σ pre x W hi hx ⟨hl, hk⟩
      refine ⟨fn, _, assign, body, run_yield (P := P) (args := encs x) hl (hps x), roundIn_of_wpIn hfn (hassign _ x W _ ?_)⟩
      refine ⟨_, run_beginRound hl rfl, ?_⟩
      have hlt : D + 1 < W.heap.size := (Array.getElem?_eq_some_iff.1 hl).1
      have hl2 : (W.putObj (D + 1) (.loop { rec0 .ready with state := .busy })).heap[D + 1]? = some (.loop { rec0 .ready with state := .busy }) := World.putObj_heap_same hlt
      have hk2 : (W.putObj (D + 1) (.loop { rec0 .ready with state := .busy })).heap[D]? = some (.deferred (some [])) := (World.putObj_heap_other (by omega)).trans hk
      refine wpIn_mono (hbody _ σ pre x _ ((hI σ).putObj _ hi (by omega) hl rfl) ((hP pre).putObj _ hx (by omega) hl rfl)) ?_
      rintro e a3 W3 hp
      cases e with
      | ret => exact hp.elim
      | exit id => exact hp.elim
      | goto t => exact hp.elim
      | panic ch => exact hp.elim
      | outgrown => exact hp.elim
      | normal => ?_
      obtain ⟨hk3, hi3⟩ := hp
      have hl3 := hk3.same _ _ hl2 rfl (fun _ _ e => by cases e)
      have hd3 := hk3.same _ _ hk2 rfl (fun _ _ e => by cases e)
      exact ⟨_, _, run_endRound (P := P) none hl3, rfl, (hI σ).putObj _ hi3 (by omega) hl3 rfl, World.putObj_heap_same (Array.getElem?_eq_some_iff.1 hl3).1, (World.putObj_heap_other (by omega)).trans hd3⟩
    · rintro e W2 ⟨⟨v, rfl⟩, σ, xs, hS, hi, hl, hk⟩
      exact ⟨none, _, run_endLoop (P := P) hl (by intro h; cases h), hdone _ σ xs _ (Nat.le_refl _) hS ((hI σ).putObj _ hi (by omega) hl rfl) ((World.putObj_heap_other (by omega)).trans hk)⟩
end
end Go.Proofs.YtlnjphggfbiabaaGreat

/-
  productcode.Peel: what is left of the erased places (slices.Clone, IndexFunc, DeleteFunc).
-/
namespace Go.Proofs.YtlnjphggfbiabaaGreat
open Go.RowKit Go.Maps
set_option linter.unusedVariables false

theorem zero_int (w : World) : (zeroValue 3).run Tryz.prog w = .ok (.int .i64 0) w := by kernel_rfl
theorem below_setCells {B : Nat} {w0 : World} {b : Nat} (hb : B ≤ b) : ∀ (vs : List Value) (o : Nat) (w : World), Below B w0 w → Below B w0 (w.setCells b o vs)
  | [], _, _, h => h
  | v :: vs, o, w, h => below_setCells hb vs (o + 1) _ (h.setCell (p := ⟨b, o, none⟩) hb v)
theorem clone29_any (A : Option Addr) (c : Nat) (l : List Nat) (w : World) (h : SlAt w w.heap.size A (posV l)) (hl : l.length ≤ 100000) :
    Calls Tryz.prog 44 #[.slice A l.length c] w fun e w' => Below w.heap.size w w' ∧ ∃ A2 c2, e = .returned (.slice A2 l.length c2) ∧ w'.ownsRow w.heap.size 3 1 (.slice A2 l.length c2) l.length (posV l) := by
  have HS := Lib.hid h
  obtain ⟨n, hn⟩ : ∃ n, l.length = n := ⟨_, rfl⟩
  have HN := Lib.hid hn
  rw [hn] at hl ⊢
  have hq := fun (w : World) (a : Option Addr) (n c n' c' : Nat) => Lib.run_eql_slice_nil (P := Tryz.prog) w 29 3 a n c n' c' Tryz.underlying29
  cases A with
  | none =>
    have h0 : l = [] := by
      cases l with
      | nil => rfl
      | cons a l =>
        obtain ⟨b, off, e, _⟩ := h 0 _ rfl
        cases e
    subst h0
    have hn0 : n = 0 := hn.symm
    subst hn0
    clear h hn
    go_enter Tryz.func44, Tryz.ntmps44
    go_wp2_with fail
    go_ret
    exact ⟨Below.refl _ _, none, 0, rfl, World.ownsRow_nil _ _ _ _⟩
  | some a =>
    clear h hn
    go_enter Tryz.func44, Tryz.ntmps44
    have HO := Lib.hid (World.ownsRow_lit (base := w.heap.size) (e := 3) (size := 1) w #[] 0 (Nat.le_refl _) (by decide) rfl)
    go_wp2_with (at_builtin; refine wpList_appX HO.out info_intp Tryz.underlying29 rfl (by decide) (by rw [posV_length, HN.out, Nat.mul_one]) (HS.out.below ((Below.refl _ _).alloc (Nat.le_refl _) _)) (posV_one _) (by unfold maxLen; omega) (by omega) (by simp) rfl rfl (by rfl) (by rfl) ?_; intro v1 w1 hown1 hg1 _; have HB1 : Hid (Below w.heap.size w w1) := Lib.hid (((Below.refl _ _).alloc (Nat.le_refl _) _).grown hg1 (by simp) (fun k hk => (HO.out.lt k hk).1)); obtain ⟨A1, c1, hv1⟩ := own_slice hown1; subst hv1; have HO1 := Lib.hid hown1; clear hown1 hg1)
    go_ret
    have h1 := HO1.out
    rw [Nat.zero_add] at h1
    exact ⟨HB1.out, A1, c1, by first | rfl | simp, h1⟩
theorem left1_any (a g b n : Nat) (l : List Nat) (w : World) (hg : RowAt w g 79 #[.map (some b)]) (hs : SetAt w b n l) (ha : a ≤ 1000000) :
    Calls Tryz.prog 45 #[.int .i64 (a : Int), .pointer (some ⟨g, 0, none⟩)] w fun e w' => e = .returned (.bool (!decide (a ∈ l))) ∧ w = w' := by
  have q := hg.cell
  have hlk := hs.look ha
  obtain ⟨r, hr⟩ : ∃ r, decide (a ∈ l) = r := ⟨_, rfl⟩
  rw [hr] at hlk ⊢
  clear hg hs hr
  go_enter Tryz.func45, Tryz.ntmps45
  go_wp2_with fail
  go_ret
  exact ⟨by cases r <;> rfl, rfl⟩
set_option maxRecDepth 100000 in
set_option maxHeartbeats 2000000 in
theorem index29_any (A : Option Addr) (c g b n : Nat) (l xs : List Nat) (w : World) (h : SlAt w w.heap.size A (posV xs)) (hg : RowAt w g 79 #[.map (some b)]) (hs : SetAt w b n l) (hl : xs.length ≤ 100000) (hx : ∀ a ∈ xs, a ≤ 1000000) :
    Calls Tryz.prog 85 #[.slice A xs.length c, .func (.func 45) #[] #[.pointer (some ⟨g, 0, none⟩)]] w fun e w' => w = w' ∧
      (((∀ a ∈ xs, a ∈ l) ∧ e = .returned (.int .i64 (-1))) ∨ ∃ k : Nat, k < xs.length ∧ (∀ j a, j < k → xs[j]? = some a → a ∈ l) ∧ (∀ a, xs[k]? = some a → a ∉ l) ∧ e = .returned (.int .i64 (k : Int))) := by
  have HS := Lib.hid h
  have HX := Lib.hid hx
  have HG := Lib.hid hg
  have HT := Lib.hid hs
  obtain ⟨m, hm⟩ : ∃ m, xs.length = m := ⟨_, rfl⟩
  have HM := Lib.hid hm
  rw [hm] at hl ⊢
  clear h hg hs hx hm
  go_enter Tryz.func85, Tryz.ntmps85
  go_wp2_with fail
  go_loopw [8] (fun i wr => ∃ k : Nat, k ≤ m ∧ i = .int .i64 (k : Int) ∧ wr = w ∧ Hid (∀ j a, j < k → xs[j]? = some a → a ∈ l)) (fun i _ => m - (intOf i).toNat)
  case atStart => exact ⟨0, by omega, rfl, by first | rfl | trivial, Lib.hid (fun j a hj => by omega)⟩
  case round =>
    obtain ⟨k, hk, rfl, rfl, HK⟩ := hrel
    by_cases hkm : k < m
    · obtain ⟨a, ha⟩ : ∃ a, xs[k]? = some a := ⟨xs[k]'(by rw [HM.out]; exact hkm), List.getElem?_eq_getElem _⟩
      have HA := Lib.hid ha
      obtain ⟨b1, o1, hA1, _⟩ := HS.out.posAddr (by rw [HM.out]; omega)
      subst hA1
      have q1 := HS.out.pos rfl ha
      have C := Lib.hid (left1_any a g b n l wr HG.out HT.out (HX.out a (List.mem_of_getElem? ha)))
      have hkI : (k : Int) < (m : Int) := by omega
      have h0k : (0 : Int) ≤ (k : Int) := by omega
      clear ha
      by_cases hin : a ∈ l
      · have HIN := Lib.hid hin
        rw [show (!decide (a ∈ l)) = false by simpa using hin] at C
        clear hin
        go_wp2_with fail
        refine C.out.mono ?_
        rintro e w2 ⟨rfl, rfl⟩
        go_wp2_with fail
        go_roundw
        case rel => exact ⟨k + 1, by omega, by go_num, by trivial, Lib.hid (fun j x hj hx => by
          by_cases e : j = k
          · subst e
            rw [HA.out] at hx
            injection hx with hx
            rw [← hx]; exact HIN.out
          · exact HK.out j x (by omega) hx)⟩
        case measure => simp [intOf]; omega
      · have HIN := Lib.hid hin
        rw [show (!decide (a ∈ l)) = true by simpa using hin] at C
        clear hin
        go_wp2_with fail
        refine C.out.mono ?_
        rintro e w2 ⟨rfl, rfl⟩
        go_wp2_with fail
        go_ret
        exact ⟨rfl, .inr ⟨k, hkm, HK.out, fun x hx => by rw [HA.out] at hx; injection hx with hx; rw [← hx]; exact HIN.out, rfl⟩⟩
    · obtain rfl : k = m := by omega
      have hkI : ¬ (k : Int) < (k : Int) := by omega
      go_wp2_with fail
      go_ret
      refine ⟨rfl, .inl ⟨fun a ha => ?_, rfl⟩⟩
      obtain ⟨j, hj⟩ := List.mem_iff_getElem?.1 ha
      exact HK.out j a (by have := (List.getElem?_eq_some_iff.1 hj).1; rw [HM.out] at this; exact this) hj
def fltN (l xs : List Nat) : List Nat := xs.filter fun a => decide (a ∈ l)
theorem fltN_hit {l xs : List Nat} {k a : Nat} (h : xs[k]? = some a) (hm : a ∈ l) : (fltN l (xs.take (k + 1))).length = (fltN l (xs.take k)).length + 1 := by
  unfold fltN
  rw [List.take_add_one, h, List.filter_append, List.length_append]
  simp [hm]
theorem fltN_miss {l xs : List Nat} {k a : Nat} (h : xs[k]? = some a) (hm : a ∉ l) : (fltN l (xs.take (k + 1))).length = (fltN l (xs.take k)).length := by
  unfold fltN
  rw [List.take_add_one, h, List.filter_append, List.length_append]
  simp [hm]
theorem fltN_le (l xs : List Nat) (k : Nat) : (fltN l (xs.take k)).length ≤ k := by
  unfold fltN
  exact Nat.le_trans (List.length_filter_le _ _) (by rw [List.length_take]; omega)
set_option maxRecDepth 100000 in
set_option maxHeartbeats 4000000 in
theorem delfunc_any (A : Option Addr) (c g b n base : Nat) (l xs : List Nat) (w : World) (h : w.ownsRow base 3 1 (.slice A xs.length c) xs.length (posV xs)) (hg : RowAt w g 79 #[.map (some b)]) (hs : SetAt w b n l) (hl : xs.length ≤ 100000) (hx : ∀ a ∈ xs, a ≤ 1000000) (hgb : g < base) (hbb : b < base) :
    Calls Tryz.prog 43 #[.slice A xs.length c, .func (.func 45) #[] #[.pointer (some ⟨g, 0, none⟩)]] w fun e w' => Below base w w' ∧ ∃ A2 c2, e = .returned (.slice A2 (fltN l xs).length c2) := by
  have HS := Lib.hid h
  have HX := Lib.hid hx
  have HG := Lib.hid hg
  have HT := Lib.hid hs
  have C0 := Lib.hid (index29_any A c g b n l xs w (SlAt.of_own' h (Nat.le_refl _)) hg hs hl hx)
  obtain ⟨m, hm⟩ : ∃ m, xs.length = m := ⟨_, rfl⟩
  have HM := Lib.hid hm
  rw [hm] at hl C0 HS ⊢
  clear h hg hs hx hm
  go_enter Tryz.func43, Tryz.ntmps43
  go_wp2_with fail
  refine C0.out.mono ?_
  rintro e w1 ⟨rfl, ⟨hall, rfl⟩ | ⟨k0, hk0, hbef, hat, rfl⟩⟩
  · clear C0
    have HF : Hid ((fltN l xs).length = m) := Lib.hid (by rw [← HM.out]; unfold fltN; rw [List.filter_eq_self.2 (fun a ha => by simpa using hall a ha)])
    clear hall
    go_wp2_with fail
    go_ret
    exact ⟨Below.refl _ _, A, c, by rw [HF.out]; rfl⟩
  · clear C0
    obtain ⟨g0, c0, hv0, hb0, hlt0, hcap0⟩ := own_form HS.out (by omega)
    injection hv0 with hA0 _ hc0
    subst hA0 hc0
    have HF0 : Hid ((fltN l (xs.take (k0 + 1))).length = k0) := Lib.hid (by
      obtain ⟨a, ha⟩ : ∃ a, xs[k0]? = some a := ⟨xs[k0]'(by rw [HM.out]; exact hk0), List.getElem?_eq_getElem _⟩
      rw [fltN_miss ha (hat a ha)]
      unfold fltN
      rw [List.filter_eq_self.2 (fun a ha => by
        obtain ⟨j, hj⟩ := List.mem_iff_getElem?.1 ha
        have hjk : j < k0 := by have := (List.getElem?_eq_some_iff.1 hj).1; rw [List.length_take] at this; omega
        rw [List.getElem?_take_of_lt hjk] at hj
        simpa using hbef j a hjk hj), List.length_take, HM.out]
      omega)
    have hne : ¬ ((k0 : Int) = -1) := by omega
    have hneB : ((k0 : Int) == -1) = false := by rw [beq_eq_false_iff_ne]; omega
    clear hbef hat
    go_wp2_with fail
    go_loopw [5, 6] (fun i j wr => ∃ (p t : Nat) (ys : List Nat), t ≤ m ∧ p < t ∧ i = .int .i64 (p : Int) ∧ j = .int .i64 (t : Int) ∧ Hid ((fltN l (xs.take t)).length = p) ∧ Hid (ys.length = m ∧ ∀ s, t ≤ s → ys[s]? = xs[s]?) ∧ wr.ownsRow base 3 1 (.slice (some ⟨g0, 0, none⟩) m c) m (posV ys) ∧ Below base w wr) (fun _ j _ => m - (intOf j).toNat)
    case atStart => exact ⟨k0, k0 + 1, xs, by omega, by omega, rfl, by first | rfl | go_num, HF0, Lib.hid ⟨HM.out, fun _ _ => rfl⟩, HS.out, Below.refl _ _⟩
    case round =>
      obtain ⟨p, t, ys, ht, hpt, rfl, rfl, HF, HY, hown, hbel⟩ := hrel
      have HO := Lib.hid hown
      have HB := Lib.hid hbel
      by_cases htm : t < m
      · obtain ⟨a, ha⟩ : ∃ a, xs[t]? = some a := ⟨xs[t]'(by rw [HM.out]; exact htm), List.getElem?_eq_getElem _⟩
        have hya : ys[t]? = some a := by rw [HY.out.2 t (Nat.le_refl _)]; exact ha
        have q1 := hown.cellAt t (by omega)
        have q2 := hown.cellAt p (by omega)
        have f2 := hown.frozenAt p
        have e1 : (posV ys)[t]? = some (.int .i64 (a : Int)) := by simp [posV, hya]
        obtain ⟨y, hy⟩ : ∃ y, ys[p]? = some y := ⟨ys[p]'(by rw [HY.out.1]; omega), List.getElem?_eq_getElem _⟩
        have e2 : (posV ys)[p]? = some (.int .i64 (y : Int)) := by simp [posV, hy]
        rw [e1] at q1
        rw [e2] at q2
        have hgw : g < w.heap.size := HG.out.lt
        have C := Lib.hid (left1_any a g b n l wr (HG.out.below hbel hgb) (HT.out.below hbel hbb) (HX.out a (List.mem_of_getElem? ha)))
        have htI : (t : Int) < (m : Int) := by omega
        have hpI : (p : Int) < (m : Int) := by omega
        have h0t : (0 : Int) ≤ (t : Int) := by omega
        have h0p : (0 : Int) ≤ (p : Int) := by omega
        by_cases hin : a ∈ l
        · have HF2 : Hid ((fltN l (xs.take (t + 1))).length = p + 1) := Lib.hid (by rw [fltN_hit ha hin, HF.out])
          rw [show (!decide (a ∈ l)) = false by simpa using hin] at C
          clear hin ha hya e1 e2 hown hbel hy
          go_wp2_with fail
          refine C.out.mono ?_
          rintro e w2 ⟨rfl, rfl⟩
          go_wp2_with fail
          go_roundw
          case rel =>
            have h9 := (HO.out.stored p (.int .i64 (a : Int))).1
            have e9 : (posV ys).set p (.int .i64 (a : Int)) = posV (ys.set p a) := by unfold posV; rw [List.map_set]
            rw [e9] at h9
            exact ⟨p + 1, t + 1, ys.set p a, by omega, by omega, by go_num, by go_num, HF2, Lib.hid ⟨by rw [List.length_set]; exact HY.out.1, fun s hs => by rw [List.getElem?_set_ne (by omega)]; exact HY.out.2 s (by omega)⟩, h9, HB.out.setCell (p := ⟨g0, p, none⟩) hb0 _⟩
          case measure => simp [intOf]; omega
        · have HF2 : Hid ((fltN l (xs.take (t + 1))).length = p) := Lib.hid (by rw [fltN_miss ha hin, HF.out])
          rw [show (!decide (a ∈ l)) = true by simpa using hin] at C
          clear hin ha hya e1 e2 hown hbel hy
          go_wp2_with fail
          refine C.out.mono ?_
          rintro e w2 ⟨rfl, rfl⟩
          go_wp2_with fail
          go_roundw
          case rel => exact ⟨p, t + 1, ys, by omega, by omega, rfl, by go_num, HF2, Lib.hid ⟨HY.out.1, fun s hs => HY.out.2 s (by omega)⟩, HO.out, HB.out⟩
          case measure => simp [intOf]; omega
      · obtain rfl : t = m := by omega
        have htI : ¬ (t : Int) < (t : Int) := by omega
        have HFF : Hid ((fltN l xs).length = p) := Lib.hid (by have := HF.out; rwa [List.take_of_length_le (by rw [HM.out]; exact Nat.le_refl _)] at this)
        have hpI : (p : Int) ≤ (t : Int) := by omega
        have h0p : (0 : Int) ≤ (p : Int) := by omega
        have hpc : (p : Int) ≤ (c : Int) := by omega
        have htc : (t : Int) ≤ (c : Int) := by omega
        have hcl : ∀ ty, (Builtin.clear_ #[29] ty #[.slice (some ⟨g0, p, none⟩) (t - p) (c - p)]).run Tryz.prog wr = .ok (.tuple #[]) (wr.setCells g0 p (List.replicate (t - p) (.int .i64 0))) := fun ty =>
          Lib.run_clear_slice wr 29 3 ty (.int .i64 0) Tryz.underlying29 zero_int rfl rfl g0 p (t - p) (c - p) (by omega) (fun j hj => by
            rw [hown.cellAt (p + j) (by omega)]
            obtain ⟨y, hy⟩ : ∃ y, ys[p + j]? = some y := ⟨ys[p + j]'(by rw [HY.out.1]; omega), List.getElem?_eq_getElem _⟩
            simp [posV, hy]) (fun j hj => hown.frozenAt (p + j))
        have hcp1 : ¬ c = p := by omega
        have hcp2 : ¬ c - p = 0 := by omega
        have hcp3 : p < c := by omega
        clear hown hbel
        go_upto_region 11 with fail
        go_wp2_with (simp only [hcl])
        go_ret
        exact ⟨below_setCells hb0 _ _ _ HB.out, some ⟨g0, 0, none⟩, c, by rw [HFF.out]; rfl⟩
end Go.Proofs.YtlnjphggfbiabaaGreat
