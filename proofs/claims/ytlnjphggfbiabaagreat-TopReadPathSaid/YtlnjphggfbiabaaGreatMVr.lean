/-
  The reference's Repeat (out of c27/XREnc).
-/
import Derived.Test.YtlnjphggfbiabaaGreatMLka
import Derived.Deep.Cut
import Derived.Deep.RegionWith
import Derived.Test.YtlnjphggfbiabaaGreatMVb
import Derived.Test.YtlnjphggfbiabaaGreatMEf
import Derived.Test.YtlnjphggfbiabaaGreatMFk
namespace Go.Proofs.YtlnjphggfbiabaaGreat
open Go.RowKit
set_option linter.unusedVariables false

set_option maxHeartbeats 1000000 in
theorem repr_any (b : UInt8) (n : Nat) (w : World) (hn : n ≤ 100000) :
    Calls Tryz.prog 17 #[.int .u8 (b.toNat : Int), .int .i64 (n : Int)] w fun e w' => e = .returned (.string ⟨(List.replicate n b).toArray⟩) ∧ Below w.heap.size w w' := by
  have hi : (Tryz.prog.info? 5).map (fun i => (i.zero, i.size, i.bytes)) = some (some (.int .u8 0), 1, 1) := by kernel_rfl
  go_enter Tryz.func17, Tryz.ntmps17
  go_wp2_with fail
  go_loopw [5, 6] (fun v i wr => ∃ k : Nat, k ≤ n ∧ i = .int .i64 k ∧ wr.ownsRow w.heap.size 5 1 v k ((List.replicate k b).map byteV) ∧ Below w.heap.size w wr) (fun _ i _ => n - (intOf i).toNat)
  case atStart => exact ⟨0, by omega, rfl, World.ownsRow_made _ _ _ (Nat.le_refl _) (by decide) rfl, (Below.refl _ _).alloc (Nat.le_refl _) _⟩
  case round =>
    obtain ⟨k, hk, rfl, hown, hb⟩ := hrel
    by_cases hlt : k < n
    · have hlt' : (k : Int) < (n : Int) := by omega
      go_wp2_with (at_builtin; refine wpList_app1 hown hi Tryz.underlying75 rfl (by unfold maxLen; omega) (by omega) hb.size rfl rfl rfl (by rfl) (by rfl) ?_; intro v1 w2 hown2 hb2 _)
      go_roundw
      case rel => exact ⟨k + 1, by omega, by go_num, by rw [List.replicate_succ', List.map_append]; exact hown2, hb.trans hb2⟩
      case measure => simp [intOf]; omega
    · obtain rfl : k = n := by omega
      have hge : ¬ (k : Int) < (k : Int) := by omega
      have hcv := own_string (P := Tryz.prog) wr 75 9 5 Tryz.underlying75 Tryz.underlying5 Tryz.underlying9 hown
      go_wp2_with fail
      go_ret
      exact ⟨rfl, hb⟩
end Go.Proofs.YtlnjphggfbiabaaGreat

/-
  TopReadPath, plain.
-/
namespace Go.Proofs.YtlnjphggfbiabaaGreat
open Go.RowKit
set_option linter.unusedVariables false

theorem natS_app (a b : List Nat) : natS a ++ natS b = natS (a ++ b) := by
  apply ByteArray.ext
  unfold natS
  simp
theorem sN_app (a b : ByteArray) : sN (a ++ b) = sN a ++ sN b := by
  unfold sN
  simp
def getS (ds : List ByteArray) (i : Nat) : ByteArray := ds[i]?.getD ⟨#[]⟩
def trkN (ds : List ByteArray) (k : Nat) : List Nat := (List.range k).flatMap fun i => rawN i (getS ds i)
def DsOk (ds : List ByteArray) : Prop := ds.length ≤ 2 ∧ ∀ d ∈ ds, d.size = 2048
theorem DsOk.get {ds : List ByteArray} (h : DsOk ds) {i : Nat} (hi : i < ds.length) : i ≤ 2 ∧ (getS ds i).size = 2048 := by
  refine ⟨by have := h.1; omega, ?_⟩
  unfold getS
  rw [List.getElem?_eq_getElem hi]
  exact h.2 _ (List.getElem_mem hi)
theorem trkN_succ (ds : List ByteArray) (k : Nat) : trkN ds (k + 1) = trkN ds k ++ rawN k (getS ds k) := by
  unfold trkN
  rw [List.range_succ, List.flatMap_append]
  simp
theorem trkN_ok {ds : List ByteArray} (h : DsOk ds) : ∀ k, k ≤ ds.length → (trkN ds k).length = 2352 * k ∧ B8 (trkN ds k)
  | 0, _ => ⟨rfl, fun _ h => (List.not_mem_nil h).elim⟩
  | k + 1, hk => by
    obtain ⟨h1, h2⟩ := trkN_ok h k (by omega)
    obtain ⟨g1, g2⟩ := h.get (show k < ds.length by omega)
    obtain ⟨r1, r2, _⟩ := raw_ok g1 g2
    rw [trkN_succ, List.length_append, h1, r1]
    exact ⟨by omega, h2.append r2⟩
theorem trkN_get {ds : List ByteArray} (h : DsOk ds) : ∀ k, k ≤ ds.length → ∀ i j, i < k → j < 2352 → (trkN ds k)[2352 * i + j]? = (rawN i (getS ds i))[j]?
  | 0, _, i, j, hi, _ => by omega
  | k + 1, hk, i, j, hi, hj => by
    obtain ⟨h1, _⟩ := trkN_ok h k (by omega)
    rw [trkN_succ]
    by_cases hik : i = k
    · subst hik
      rw [List.getElem?_append_right (by omega), h1]
      congr 1
      omega
    · rw [List.getElem?_append_left (by omega)]
      exact trkN_get h k (by omega) i j (by omega) hj
def syncN : List Nat := [0, 255, 255, 255, 255, 255, 255, 255, 255, 255, 255, 0]
/-- The erased places of a block. -/
def erI (ls : List Nat) (i : Nat) : List Nat := (ls.filter fun k => decide (k / 2352 = i) && decide (12 ≤ k % 2352)).map (· % 2352)
theorem erI_mem {ls : List Nat} {i j : Nat} : j ∈ erI ls i ↔ 12 ≤ j ∧ j < 2352 ∧ 2352 * i + j ∈ ls := by
  unfold erI
  rw [List.mem_map]
  constructor
  · rintro ⟨k, hk, rfl⟩
    rw [List.mem_filter] at hk
    obtain ⟨hk, h2⟩ := hk
    simp only [Bool.and_eq_true, decide_eq_true_eq] at h2
    refine ⟨h2.2, by omega, ?_⟩
    rw [show 2352 * i + k % 2352 = k by omega]
    exact hk
  · rintro ⟨h1, h2, h3⟩
    refine ⟨2352 * i + j, List.mem_filter.2 ⟨h3, ?_⟩, by omega⟩
    simp only [Bool.and_eq_true, decide_eq_true_eq]
    omega
theorem erI_inc {ls : List Nat} (h : ls.Pairwise (· < ·)) (i : Nat) : (erI ls i).Pairwise (· < ·) := by
  unfold erI
  rw [List.pairwise_map]
  refine (h.filter _).imp_of_mem ?_
  intro a b ha hb hab
  rw [List.mem_filter] at ha hb
  have h1 := ha.2
  have h2 := hb.2
  simp only [Bool.and_eq_true, decide_eq_true_eq] at h1 h2
  omega
theorem inc_len (N : Nat) : ∀ (l : List Nat) (a : Nat), l.Pairwise (· < ·) → (∀ x ∈ l, a ≤ x ∧ x < N) → l.length ≤ N - a
  | [], _, _, _ => Nat.zero_le _
  | x :: l, a, hp, hb => by
    obtain ⟨h1, h2⟩ := List.pairwise_cons.1 hp
    have h3 := hb x (List.mem_cons_self ..)
    have h4 := inc_len N l (x + 1) h2 (fun y hy => ⟨h1 y hy, (hb y (List.mem_cons_of_mem _ hy)).2⟩)
    rw [List.length_cons]
    omega
theorem erI_ok {ls : List Nat} (h : ls.Pairwise (· < ·)) (i : Nat) : (∀ a ∈ erI ls i, 12 ≤ a ∧ a < 2352) ∧ (erI ls i).length ≤ 3000 := by
  have h1 : ∀ a ∈ erI ls i, 12 ≤ a ∧ a < 2352 := fun a ha => ⟨(erI_mem.1 ha).1, (erI_mem.1 ha).2.1⟩
  have := inc_len 2352 (erI ls i) 12 (erI_inc h i) h1
  exact ⟨h1, by omega⟩
theorem erI_snoc (ls : List Nat) (k i : Nat) (x : Nat) (hx : ls[k]? = some x) : erI (ls.take (k + 1)) i = erI (ls.take k) i ++ (if x / 2352 = i ∧ 12 ≤ x % 2352 then [x % 2352] else []) := by
  have e : ls.take (k + 1) = ls.take k ++ [x] := by
    rw [List.take_add_one, hx]
    rfl
  rw [e]
  unfold erI
  rw [List.filter_append, List.map_append]
  congr 1
  by_cases h : x / 2352 = i ∧ 12 ≤ x % 2352
  · rw [if_pos h, List.filter_cons_of_pos (by simp [h.1, h.2])]
    rfl
  · rw [if_neg h, List.filter_cons_of_neg (by simp only [Bool.and_eq_true, decide_eq_true_eq]; exact h)]
    rfl
theorem rest_nil {er : List Nat} (h : (fltN (peelF er) er).length = 0) : peelF er = [] := by
  rw [List.eq_nil_iff_forall_not_mem]
  intro a ha
  have h1 : a ∈ fltN (peelF er) er := by
    unfold fltN
    rw [List.mem_filter]
    exact ⟨(peelF_sub er).subset ha, by simpa using ha⟩
  rw [List.eq_nil_of_length_eq_zero h] at h1
  exact List.not_mem_nil h1
/-- A block of the bytes that are read back. -/
def blkO (O : List Nat) (i : Nat) : List Nat := (O.drop (2352 * i)).take 2352
theorem blkO_len {O : List Nat} {i m : Nat} (h : O.length = 2352 * m) (hi : i < m) : (blkO O i).length = 2352 := by
  unfold blkO
  rw [List.length_take, List.length_drop, h]
  omega
theorem blkO_b8 {O : List Nat} (h : B8 O) (i : Nat) : B8 (blkO O i) := fun x hx => h x (List.mem_of_mem_drop (List.mem_of_mem_take hx))
theorem off_ok {ds : List ByteArray} (h : DsOk ds) {L : List ByteArray} {i : Nat} (hi : i < ds.length) {s : ByteArray}
    (hs : sN s = syncN ++ (scrN (blkO (outK (trkN ds ds.length) L (98 * ds.length)) i)).drop 12) :
    OffL (sN s) (codN i (getS ds i)) (erI (lsK L (98 * ds.length)) i) := by
  obtain ⟨hD, h8⟩ := trkN_ok h ds.length (Nat.le_refl _)
  have hD' : (trkN ds ds.length).length = 24 * (98 * ds.length) := by omega
  obtain ⟨hO, hO8⟩ := outK_ok (L := L) hD' h8 (98 * ds.length) (Nat.le_refl _)
  have hg := outK_get (L := L) hD' h8 (98 * ds.length) (Nat.le_refl _)
  obtain ⟨g1, g2⟩ := h.get hi
  obtain ⟨r1, r2, r3⟩ := raw_ok g1 g2
  have hbl := blkO_len (i := i) (m := ds.length) (show (outK (trkN ds ds.length) L (98 * ds.length)).length = _ by omega) hi
  have hsl : (scrN (blkO (outK (trkN ds ds.length) L (98 * ds.length)) i)).length = 2352 := by rw [scrN_length, hbl]
  refine ⟨?_, sN_b8 s, fun j hj => ?_⟩
  · rw [hs, List.length_append, List.length_drop, hsl]
    rfl
  · rw [hs]
    by_cases h12 : j < 12
    · rw [List.getElem?_append_left (by show j < 12; exact h12)]
      have := sync_cod g1 g2
      have h9 : (codN i (getS ds i))[j]? = ((codN i (getS ds i)).take 12)[j]? := by rw [List.getElem?_take, if_pos h12]
      rw [h9, this]
      rfl
    · rw [List.getElem?_append_right (by show 12 ≤ j; omega), List.getElem?_drop, show 12 + (j - syncN.length) = j by show 12 + (j - 12) = j; omega]
      by_cases hjl : j < 2352
      · rw [← r3]
        refine scrN_same hbl r1 ?_
        unfold blkO
        rw [List.getElem?_take, if_pos hjl, List.getElem?_drop, ← trkN_get h ds.length (Nat.le_refl _) i j hi hjl]
        exact hg _ (by omega) (fun hm => hj (erI_mem.2 ⟨by omega, hjl, hm⟩))
      · rw [List.getElem?_eq_none (by omega), List.getElem?_eq_none (by have := (cod_ok g1 g2).1.len; omega)]
end Go.Proofs.YtlnjphggfbiabaaGreat

/-
  TopReadPath: ContainsFunc with TopReadPath$1 (out of c52/XPwB).
-/
namespace Go.Proofs.YtlnjphggfbiabaaGreat
open Go.RowKit
set_option linter.unusedVariables false

def blkOk (b : ByteArray) : Bool := decide (b.size = 2048)
theorem all_snoc {α : Type} {p : α → Bool} {l : List α} {k : Nat} {x : α} (h : l[k]? = some x) : (l.take (k + 1)).all p = ((l.take k).all p && p x) := by
  rw [List.take_add_one, h]
  simp
theorem all_no {α : Type} {p : α → Bool} {l : List α} {k : Nat} {x : α} (h : l[k]? = some x) (hp : p x = false) : l.all p = false := by
  rw [List.all_eq_false]
  exact ⟨x, List.mem_of_getElem? h, by rw [hp]; simp⟩
theorem tbad_any (s : ByteArray) (w : World) : Calls Tryz.prog 10 #[.string s] w fun e w' => e = .returned (.bool (!blkOk s)) ∧ w = w' := by
  have HF : Hid ((!blkOk s) = ((s.size : Int) != 2048)) := Lib.hid (by unfold blkOk; rw [Bool.eq_iff_iff]; simp; omega)
  go_enter Tryz.func10, Tryz.ntmps10
  go_wp2_with fail
  go_ret
  exact ⟨ret_bool (by rw [HF.out]), rfl⟩
set_option maxHeartbeats 1000000 in
theorem tindex_any (A : Option Addr) (c : Nat) (bl : List ByteArray) (w : World) (h : SlAt w w.heap.size A (strV bl)) (hm : bl.length ≤ 1000000) :
    Calls Tryz.prog 29 #[.slice A bl.length c, .func (.func 10) #[] #[]] w fun e w' => (∃ i : Int, e = .returned (.int .i64 i) ∧ decide (0 ≤ i) = !bl.all blkOk) ∧ w = w' := by
  have HW := Lib.hid h
  obtain ⟨n, hn⟩ : ∃ n, bl.length = n := ⟨_, rfl⟩
  have HN := Lib.hid hn
  rw [hn] at hm ⊢
  clear h hn
  go_enter Tryz.func29, Tryz.ntmps29
  go_wp2_with fail
  go_loop [8] (fun i => ∃ k : Nat, k ≤ n ∧ i = .int .i64 k ∧ Hid ((bl.take k).all blkOk = true)) (fun i => n - (intOf i).toNat)
  case atStart => exact ⟨0, by omega, rfl, Lib.hid (by simp)⟩
  case round =>
    obtain ⟨k, hk, rfl, HS⟩ := hrel
    by_cases hlt : k < n
    · obtain ⟨s, hs⟩ : ∃ s, bl[k]? = some s := ⟨bl[k]'(by rw [HN.out]; exact hlt), List.getElem?_eq_getElem _⟩
      obtain ⟨b, off, hA, hbk⟩ := HW.out.strAddr (by rw [HN.out]; omega)
      subst hA
      have p0 := HW.out.str rfl hs
      have hltI : (k : Int) < (n : Int) := by omega
      have h0k : (0 : Int) ≤ (k : Int) := by omega
      have HS1 := Lib.hid (all_snoc (p := blkOk) hs)
      have HNO := Lib.hid (fun hp => all_no (p := blkOk) hs hp)
      have C := Lib.hid (tbad_any s w)
      clear hs
      cases hb : blkOk s with
      | true =>
        have HB := Lib.hid hb
        rw [hb] at C
        clear hb
        go_wp2_with fail
        refine C.out.mono ?_
        rintro e w' ⟨rfl, rfl⟩
        go_wp2_with fail
        go_round
        case rel => exact ⟨k + 1, by omega, by go_num, Lib.hid (by rw [HS1.out, HS.out, HB.out]; rfl)⟩
        case measure => simp [intOf]; omega
      | false =>
        have HB := Lib.hid hb
        rw [hb] at C
        clear hb
        go_wp2_with fail
        refine C.out.mono ?_
        rintro e w' ⟨rfl, rfl⟩
        go_wp2_with fail
        go_ret
        exact ⟨⟨(k : Int), rfl, by rw [HNO.out HB.out]; exact decide_eq_true (by omega)⟩, rfl⟩
    · obtain rfl : k = n := by omega
      have hge : ¬ (k : Int) < (k : Int) := by omega
      have HS1 : Hid (bl.all blkOk = true) := Lib.hid (by have := HS.out; rwa [List.take_of_length_le (by rw [HN.out]; omega)] at this)
      go_wp2_with fail
      go_ret
      exact ⟨⟨-1, rfl, by rw [HS1.out]; rfl⟩, rfl⟩
theorem tcontains_any (A : Option Addr) (c : Nat) (bl : List ByteArray) (w : World) (h : SlAt w w.heap.size A (strV bl)) (hm : bl.length ≤ 1000000) :
    Calls Tryz.prog 9 #[.slice A bl.length c, .func (.func 10) #[] #[]] w fun e w' => e = .returned (.bool (!bl.all blkOk)) ∧ w = w' := by
  have C := Lib.hid (tindex_any A c bl w h hm)
  generalize bl.length = n at *
  clear h
  go_enter Tryz.func9, Tryz.ntmps9
  go_wp2_with fail
  refine C.out.mono ?_
  rintro e w' ⟨⟨i, rfl, hi⟩, rfl⟩
  have HI := Lib.hid hi
  clear hi
  go_wp2_with fail
  go_ret
  exact ⟨ret_bool (by rw [← HI.out]), rfl⟩
end Go.Proofs.YtlnjphggfbiabaaGreat

/-
  TopReadPath: the ways that end at once.
-/
namespace Go.Proofs.YtlnjphggfbiabaaGreat
open Go.RowKit
set_option linter.unusedVariables false

set_option maxRecDepth 100000 in
set_option maxHeartbeats 4000000 in
theorem read_no (A B : Option Addr) (c0 c1 : Nat) (ds : List ByteArray) (l : List (Int × Int)) (w : World) (h : SlAt w w.heap.size A (strV ds)) (hd : ds.length ≤ maxLen) (hl : l.length ≤ maxLen)
    (hno : ds.length = 0 ∨ 2 < ds.length ∨ 8 < l.length ∨ ds.all blkOk = false) :
    Calls Tryz.prog 4 #[.slice A ds.length c0, .slice B l.length c1] w fun e w' => e = .returned (.bool true) ∧ Below w.heap.size w w' := by
  have HC := Lib.hid (coded_ok w)
  have CT : Hid (ds.length ≤ 2 → ∀ w', Below w.heap.size w w' → Calls Tryz.prog 9 #[.slice A ds.length c0, .func (.func 10) #[] #[]] w' fun e w'' => e = .returned (.bool (!ds.all blkOk)) ∧ w' = w'') := Lib.hid (fun h2 w' hb => tcontains_any A c0 ds w' ((h.below hb).mono hb.size) (by omega))
  obtain ⟨m, hm⟩ : ∃ m, ds.length = m := ⟨_, rfl⟩
  obtain ⟨k, hk⟩ : ∃ k, l.length = k := ⟨_, rfl⟩
  rw [hm] at CT hd hno ⊢
  rw [hk] at hl hno ⊢
  clear h hm hk
  by_cases h0 : m = 0
  · have h0I : ((m : Int) == 0) = true := by simp [h0]
    go_enter Tryz.func4, Tryz.ntmps4
    go_wp2_with fail
    refine HC.out.mono ?_
    rintro e w1 ⟨rfl, hb1⟩
    have HB := Lib.hid hb1
    clear hb1 HC CT hno
    go_wp2_with fail
    go_ret
    exact ⟨rfl, HB.out⟩
  have h0I : ((m : Int) == 0) = false := by rw [beq_eq_false_iff_ne]; omega
  by_cases h2 : 2 < m
  · have h2I : (2 : Int) < (m : Int) := by omega
    go_enter Tryz.func4, Tryz.ntmps4
    go_wp2_with fail
    refine HC.out.mono ?_
    rintro e w1 ⟨rfl, hb1⟩
    have HB := Lib.hid hb1
    clear hb1 HC CT hno
    go_wp2_with fail
    go_ret
    exact ⟨rfl, HB.out⟩
  have h2I : ¬ (2 : Int) < (m : Int) := by omega
  by_cases h8 : 8 < k
  · have h8I : (8 : Int) < (k : Int) := by omega
    go_enter Tryz.func4, Tryz.ntmps4
    go_wp2_with fail
    refine HC.out.mono ?_
    rintro e w1 ⟨rfl, hb1⟩
    have HB := Lib.hid hb1
    clear hb1 HC CT hno
    go_wp2_with fail
    go_ret
    exact ⟨rfl, HB.out⟩
  have h8I : ¬ (8 : Int) < (k : Int) := by omega
  have hall : ds.all blkOk = false := by
    rcases hno with h | h | h | h
    · exact absurd h h0
    · exact absurd h h2
    · exact absurd h h8
    · exact h
  have CT2 := Lib.hid (CT.out (by omega))
  rw [hall] at CT2
  clear CT hall hno
  go_enter Tryz.func4, Tryz.ntmps4
  go_wp2_with fail
  refine HC.out.mono ?_
  rintro e w1 ⟨rfl, hb1⟩
  have HB := Lib.hid hb1
  clear hb1 HC
  go_wp2_with fail
  refine (CT2.out w1 HB.out).mono ?_
  rintro e w2 ⟨rfl, rfl⟩
  go_wp2_with fail
  go_ret
  exact ⟨rfl, HB.out⟩
end Go.Proofs.YtlnjphggfbiabaaGreat

/-
  TopReadPath: what the codes answer along the path, in one.
-/
namespace Go.Proofs.YtlnjphggfbiabaaGreat
open Go.RowKit
set_option linter.unusedVariables false

/-- A block that is read back. -/
def BlkOk (ds : List ByteArray) (O ls : List Nat) (i : Nat) (Y Z : ByteArray) : Prop :=
  Y.size = 2352 ∧
  (∀ w', Calls Tryz.prog 15 #[.string ((natS O).extract (2352 * i) (2352 * (i + 1)))] w' fun e w'' => e = .returned (.tuple #[.string Y, .int .i64 0]) ∧ Below w'.heap.size w' w'') ∧
  (peelF (erI ls i) = [] → ∀ (A : Option Addr) (c : Nat) (w' : World), SlAt w' w'.heap.size A (posV (erI ls i)) → ∀ s : ByteArray, sN s = syncN ++ (sN Y).drop 12 →
    Calls Tryz.prog 18 #[.string s, .int .i64 0, .slice A (erI ls i).length c] w' fun e w'' => Below w'.heap.size w' w'' ∧ ∃ cnt : Int, e = .returned (.tuple #[.string Z, .int .i64 cnt, .int .i64 0])) ∧
  (∀ w', Calls Tryz.prog 19 #[.string Z] w' fun e w'' => e = .returned (.tuple #[.agg #[.int .i64 (i : Int), .int .i64 0, .int .i64 0, .int .i64 0, .int .i64 0, .int .i64 0, .string (getS ds i)], .int .i64 0]) ∧ Below w'.heap.size w' w'')
theorem blk_ok {ds : List ByteArray} (h : DsOk ds) (L : List ByteArray) (O ls : List Nat) (hO : O = outK (trkN ds ds.length) L (98 * ds.length)) (hls : ls = lsK L (98 * ds.length)) (i : Nat) (hi : i < ds.length) : ∃ Y Z, BlkOk ds O ls i Y Z := by
  obtain ⟨hD, h8⟩ := trkN_ok h ds.length (Nat.le_refl _)
  have hD' : (trkN ds ds.length).length = 24 * (98 * ds.length) := by omega
  obtain ⟨hOl, hO8⟩ := outK_ok (L := L) hD' h8 (98 * ds.length) (Nat.le_refl _)
  rw [← hO] at hOl hO8
  have hbl := blkO_len (i := i) (m := ds.length) (show O.length = _ by omega) hi
  have hb8 := blkO_b8 hO8 i
  obtain ⟨g1, g2⟩ := h.get hi
  have hinc : ls.Pairwise (· < ·) := by rw [hls]; exact lsK_inc _
  obtain ⟨e1, e2⟩ := erI_ok hinc i
  have hsx : sN ((natS O).extract (2352 * i) (2352 * (i + 1))) = blkO O i := by
    rw [sN_extract, sN_natS hO8]
    unfold blkO
    rw [show 2352 * (i + 1) - 2352 * i = 2352 by omega]
  refine ⟨natS (scrN (blkO O i)), natS (codN i (getS ds i)), ?_, fun w' => ?_, fun hp A c w' hs s hsn => ?_, fun w' => ?_⟩
  · rw [natS_size, scrN_length, hbl]
  · have h9 := scramble_any ((natS O).extract (2352 * i) (2352 * (i + 1))) w' (by rw [← sN_length, hsx, hbl])
    rw [hsx] at h9
    exact h9
  · rw [sN_natS (scrN_b8 hb8)] at hsn
    have ho : OffL (sN s) (codN i (getS ds i)) (erI ls i) := by
      rw [hO] at hsn
      rw [hls]
      exact off_ok h hi hsn
    exact pdec_any s (erI ls i) (codN i (getS ds i)) A c w' hs (erI_inc hinc i) e1 e2 (cod_ok g1 g2).1 ho hp
  · have h9 := parse_any (natS (codN i (getS ds i))) w' (by rw [natS_size, (cod_ok g1 g2).1.len]; decide)
    rw [parse_cod g1 g2] at h9
    exact h9
theorem read_facts {ds : List ByteArray} (h : DsOk ds) (h1 : 0 < ds.length) {l : List (Int × Int)} (h8 : l.length ≤ 8) (hi : ∀ p ∈ l, (-9223372036854775808 ≤ p.1 ∧ p.1 ≤ 9223372036854775807) ∧ (-9223372036854775808 ≤ p.2 ∧ p.2 ≤ 9223372036854775807)) :
    ∃ (F X : List ByteArray) (O ls : List Nat) (N : Nat),
      (∀ w', Calls Tryz.prog 12 #[.string (natS (trkN ds ds.length))] w' fun e w'' => Below w'.heap.size w' w'' ∧ ∃ A c, e = .returned (.tuple #[.slice A N c, .int .i64 0]) ∧ SlAt w'' w''.heap.size A (strV F)) ∧
      (∀ (A B : Option Addr) (c c1 : Nat) (w' : World), SlAt w' w'.heap.size A (strV F) → SlAt w' w'.heap.size B (flat encI l) → Calls Tryz.prog 13 #[.slice A N c, .slice B l.length c1] w' fun e w'' => Below w'.heap.size w' w'' ∧
        (e = .returned (.tuple #[.slice none 0 0, .int .i64 1]) ∨ ∃ A c, e = .returned (.tuple #[.slice A N c, .int .i64 0]) ∧ SlAt w'' w''.heap.size A (strV X))) ∧
      (∀ (A : Option Addr) (c : Nat) (w' : World), SlAt w' w'.heap.size A (strV X) → Calls Tryz.prog 14 #[.slice A N c] w' fun e w'' => Below w'.heap.size w' w'' ∧ ∃ A c, e = .returned (.tuple #[.string (natS O), .slice A ls.length c, .int .i64 0]) ∧ SlAt w'' w''.heap.size A (posV ls)) ∧
      (natS O).size = 2352 * ds.length ∧ (natS (trkN ds ds.length)).size = 2352 * ds.length ∧ ls.Pairwise (· < ·) ∧ ls.length ≤ 5000 ∧ (∀ x ∈ ls, x < 5000) ∧ ∀ i, i < ds.length → ∃ Y Z, BlkOk ds O ls i Y Z := by
  obtain ⟨hD, hD8⟩ := trkN_ok h ds.length (Nat.le_refl _)
  have hD' : (trkN ds ds.length).length = 24 * (98 * ds.length) := by omega
  have h2 := h.1
  have hEl : (encF (trkN ds ds.length) (98 * ds.length)).length = 98 * ds.length + 108 := by unfold encF; rw [List.length_map, List.length_range]
  have hXl : (scrS (encF (trkN ds ds.length) (98 * ds.length)) l).length = 98 * ds.length + 108 := by rw [scrS_length, hEl]
  obtain ⟨hOl, hO8⟩ := outK_ok (L := scrS (encF (trkN ds ds.length) (98 * ds.length)) l) hD' hD8 (98 * ds.length) (Nat.le_refl _)
  have hinc := lsK_inc (L := scrS (encF (trkN ds ds.length) (98 * ds.length)) l) (98 * ds.length)
  have hlt : ∀ x ∈ lsK (scrS (encF (trkN ds ds.length) (98 * ds.length)) l) (98 * ds.length), x < 5000 := fun x hx => by
    have := lsK_lt hx
    omega
  refine ⟨encF (trkN ds ds.length) (98 * ds.length), scrS (encF (trkN ds ds.length) (98 * ds.length)) l, outK (trkN ds ds.length) (scrS (encF (trkN ds ds.length) (98 * ds.length)) l) (98 * ds.length), lsK (scrS (encF (trkN ds ds.length) (98 * ds.length)) l) (98 * ds.length), 98 * ds.length + 108, fun w' => ?_, fun A B c c1 w' hA hB => ?_, fun A c w' hA => ?_, by rw [natS_size]; omega, by rw [natS_size, hD], hinc, ?_, hlt, fun i hi => blk_ok h _ _ _ rfl rfl i hi⟩
  · have h9 := circenc_any (natS (trkN ds ds.length)) (98 * ds.length) w' (by rw [natS_size]; omega) (by omega) (by omega)
    rw [sN_natS hD8] at h9
    refine h9.mono ?_
    rintro e w'' ⟨hb, A, c, he, ho⟩
    exact ⟨hb, A, c, he, SlAt.of_own' ho (Nat.le_refl _)⟩
  · have h9 := scratch_any (encF (trkN ds ds.length) (98 * ds.length)) l A B c c1 w' hA hB (by omega) (by omega) (by omega) hi
    rw [hEl] at h9
    refine h9.mono ?_
    rintro e w'' ⟨hb, ⟨_, he⟩ | ⟨_, A2, c2, he, ho⟩⟩
    · exact ⟨hb, .inl he⟩
    · rw [hEl] at he ho
      exact ⟨hb, .inr ⟨A2, c2, he, SlAt.of_own' ho (Nat.le_refl _)⟩⟩
  · have h9 := circdec_any (trkN ds ds.length) (scrS (encF (trkN ds ds.length) (98 * ds.length)) l) (98 * ds.length) A c w' hA hD' hD8 (frOk_scr hD8 _ l) (by omega) (by omega)
    rw [hXl] at h9
    exact h9
  · have := inc_len 5000 _ 0 hinc (fun x hx => ⟨Nat.zero_le _, hlt x hx⟩)
    omega
end Go.Proofs.YtlnjphggfbiabaaGreat
