/-
  reedsolomon: erasures, changes; a number among positions.
-/
import Derived.Test.YtlnjphggfbiabaaGreatMRa
import Derived.Test.YtlnjphggfbiabaaGreatBridge
import Derived.Test.YtlnjphggfbiabaaGreatOwnK
import Derived.Laws.Strings
import Derived.RangeFuncWrites
import Derived.Shelf.Abstract
import Derived.Shelf.RegionOpen
import Derived.LoopNIn
import Derived.LoopIn
namespace Go.Proofs.YtlnjphggfbiabaaGreat
open Go.RowKit
set_option linter.unusedVariables false

def posV (l : List Nat) : List Value := l.map fun n : Nat => Value.int .i64 (n : Int)
theorem posV_length (l : List Nat) : (posV l).length = l.length := by simp [posV]
section
variable {w : World} {B : Nat} {A : Option Addr} {l : List Nat}
theorem SlAt.posAddr (h : SlAt w B A (posV l)) (hp : 0 < l.length) : ∃ b off, A = some ⟨b, off, none⟩ ∧ b < B := by
  obtain ⟨b, off, hA, hb, _⟩ := h.one (by rw [posV_length]; exact hp)
  exact ⟨b, off, hA, hb⟩
theorem SlAt.pos (h : SlAt w B A (posV l)) {b off : Nat} (hA : A = some ⟨b, off, none⟩) {k n : Nat} (hk : l[k]? = some n) : w.cell? ⟨b, off + k, none⟩ = some (.int .i64 (n : Int)) := by
  obtain ⟨b', off', e, _, hc⟩ := h k (.int .i64 (n : Int)) (by simp [posV, hk])
  rw [hA] at e
  injection e with e
  injection e with e1 e2 _
  subst e1 e2
  exact hc
end
/-! ### erasures -/
def erN (L : Nat) (er : List Nat) : List Nat := er.foldl (fun out (a : Nat) => prodN out [1, expN ((L : Int) - 1 - (a : Int))]) [1]
theorem erN_take {L : Nat} {er : List Nat} {k a : Nat} (h : er[k]? = some a) : erN L (er.take (k + 1)) = prodN (erN L (er.take k)) [1, expN ((L : Int) - 1 - (a : Int))] := by
  unfold erN
  rw [List.take_add_one, h, Option.toList_some, List.foldl_append]
  rfl
theorem erN_len (L : Nat) (er : List Nat) : ∀ k, k ≤ er.length → (erN L (er.take k)).length = k + 1 ∧ B8 (erN L (er.take k))
  | 0, _ => ⟨rfl, fun n hn => by rw [List.mem_singleton.1 hn]; decide⟩
  | k + 1, hk => by
    obtain ⟨h1, h2⟩ := erN_len L er k (by omega)
    rw [erN_take (List.getElem?_eq_getElem (show k < er.length by omega))]
    refine ⟨?_, prodN_b8 h2⟩
    rw [prodN_length (by intro e; rw [e] at h1; cases h1) (by simp), h1]
    simp
theorem b8_two {x : Nat} (h : x < 256) : B8 [1, x] := fun m hm => by
  rcases List.mem_cons.1 hm with rfl | hm
  · decide
  · rw [List.mem_singleton.1 hm]; exact h
set_option maxRecDepth 100000 in
set_option maxHeartbeats 2000000 in
theorem erasures_any (s : ByteArray) (A : Option Addr) (c : Nat) (er : List Nat) (w : World) (h : SlAt w w.heap.size A (posV er)) (hs : s.size ≤ 255) (hlt : ∀ a ∈ er, a < s.size) (hp : er.Pairwise (· < ·)) (hl : er.length ≤ 1000) :
    Calls Tryz.prog 110 #[.string s, .slice A er.length c] w fun e w' => Below w.heap.size w w' ∧ ∃ A2 c2, e = .returned (.tuple #[.slice A2 (er.length + 1) c2, .bool true]) ∧ w'.ownsRow w.heap.size 5 1 (.slice A2 (er.length + 1) c2) (er.length + 1) (natV (erN s.size er)) := by
  have HS := Lib.hid h
  have HLT := Lib.hid hlt
  have HP := Lib.hid (List.pairwise_iff_getElem.1 hp)
  obtain ⟨n, hn⟩ : ∃ n, er.length = n := ⟨_, rfl⟩
  have HN := Lib.hid hn
  have HE := Lib.hid (erN_len s.size er)
  have HFULL : Hid (erN s.size er = erN s.size (er.take n)) := Lib.hid (by rw [List.take_of_length_le (by omega)])
  rw [hn] at hl HE ⊢
  rw [HFULL.out]
  have CL := Lib.hid (fun w' i (hi : i < s.size) => locator_any s i w' hs hi)
  have HLIT := Lib.hid (World.ownsRow_lit (base := w.heap.size) (size := 1) (e := 5) w #[.int .u8 1] 1 (Nat.le_refl _) (by unfold maxLen; omega) rfl)
  have HB0 := Lib.hid ((Below.refl w.heap.size w).alloc (Nat.le_refl _) (.cells #[.int .u8 1] 5))
  clear h hlt hp hn HFULL
  go_enter Tryz.func110, Tryz.ntmps110
  go_wp2_with fail
  go_loopw [6, 12] (fun v i wr => ∃ (k : Nat) (A2 : Option Addr) (c2 : Nat), k ≤ n ∧ i = .int .i64 k ∧ v = .slice A2 (k + 1) c2 ∧ wr.ownsRow w.heap.size 5 1 (.slice A2 (k + 1) c2) (k + 1) (natV (erN s.size (er.take k))) ∧ Below w.heap.size w wr) (fun _ i _ => n - (intOf i).toNat)
  case atStart => exact ⟨0, _, _, by omega, rfl, rfl, HLIT.out, HB0.out⟩
  case round =>
    clear HLIT HB0
    obtain ⟨k, A2, c2, hk, rfl, rfl, hown, hbel⟩ := hrel
    by_cases hltk : k < n
    · obtain ⟨a, ha⟩ : ∃ a, er[k]? = some a := ⟨er[k]'(by rw [HN.out]; exact hltk), List.getElem?_eq_getElem _⟩
      obtain ⟨b, off, hA, hb⟩ := HS.out.posAddr (by rw [HN.out]; omega)
      subst hA
      have q1 := (HS.out.below hbel).pos rfl ha
      have has := HLT.out a (List.mem_of_getElem? ha)
      have hprev : k = 0 ∨ ∃ j a', k = j + 1 ∧ er[j]? = some a' ∧ a' < a := by
        cases k with
        | zero => exact .inl rfl
        | succ j =>
          have hjl : j < er.length := by rw [HN.out]; omega
          refine .inr ⟨j, er[j], rfl, List.getElem?_eq_getElem hjl, ?_⟩
          have := HP.out j (j + 1) hjl (by rw [HN.out]; exact hltk) (by omega)
          rw [← (List.getElem?_eq_some_iff.1 ha).2]
          exact this
      obtain ⟨hel, he8⟩ := HE.out k (by omega)
      have HT := Lib.hid (erN_take (L := s.size) ha)
      have hx8 := expN_lt ((s.size : Int) - 1 - (a : Int))
      have C := Lib.hid (CL.out wr a has)
      generalize expN ((s.size : Int) - 1 - (a : Int)) = X at *
      have hltI : (k : Int) < (n : Int) := by omega
      have h0k : (0 : Int) ≤ (k : Int) := by omega
      have ha0 : ¬ (a : Int) < 0 := by omega
      have has2 : ¬ (s.size : Int) ≤ (a : Int) := by omega
      have hbl := (Below.refl wr.heap.size wr).alloc (Nat.le_refl _) (.cells #[.int .u8 1, .int .u8 (X : Int)] 5)
      have hlit := World.ownsRow_lit (base := w.heap.size) (size := 1) (e := 5) wr #[.int .u8 1, .int .u8 (X : Int)] 2 hbel.size (by unfold maxLen; omega) rfl
      have HB := Lib.hid (hbel.trans (hbl.mono hbel.size))
      have CP := Lib.hid (times_any A2 (some ⟨wr.heap.size, 0, none⟩) c2 2 (erN s.size (er.take k)) [1, X] _ (SlAt.of_own' (own_all hown hbl) (Nat.le_refl _)) (SlAt.of_own' hlit (Nat.le_refl _)) he8 (b8_two hx8) (by omega) (by simp))
      rw [← HT.out, hel, show ([1, X] : List Nat).length = 2 from rfl] at CP
      obtain ⟨G1, hG1⟩ : ∃ G1, erN s.size (er.take (k + 1)) = G1 := ⟨_, rfl⟩
      have HG1 := Lib.hid hG1
      have HGL : Hid (G1.length = k + 1 + 1) := Lib.hid (by rw [← hG1]; exact (HE.out (k + 1) (by omega)).1)
      rw [hG1] at CP
      unfold ProdRes at CP
      rw [HGL.out] at CP
      have HSB := Lib.hid (HS.out.below hbel)
      clear hown hbel hlit hbl hG1 ha
      rcases hprev with rfl | ⟨j, a', rfl, ha', hlt'⟩
      · rw [Nat.add_zero] at q1
        go_wp2_with fail
        refine C.out.mono ?_
        rintro e w1 ⟨rfl, rfl⟩
        go_wp2_with fail
        with_reducible refine CP.out.mono ?_
        rintro e w2 ⟨hb2, A3, c3, rfl, ho2⟩
        have HB2 := Lib.hid (HB.out.trans (hb2.mono HB.out.size))
        have HO2 := Lib.hid (own_le ho2 HB.out.size)
        clear hb2 ho2
        go_wp2_with fail
        go_roundw
        case rel => exact ⟨0 + 1, A3, c3, by omega, by first | rfl | go_num, rfl, by rw [HG1.out]; exact HO2.out, HB2.out⟩
        case measure => simp [intOf]; omega
      · have q2 := HSB.out.pos rfl ha'
        have hgt : (0 : Int) < ((j + 1 : Nat) : Int) := by omega
        have hlt2 : ¬ (a : Int) ≤ (a' : Int) := by omega
        have e6 : ((j + 1 : Nat) : Int) - 1 = (j : Int) := by omega
        have h0j : (0 : Int) ≤ (j : Int) := by omega
        have hjn : (j : Int) < (n : Int) := by omega
        clear ha' hlt'
        go_wp2_with fail
        refine C.out.mono ?_
        rintro e w1 ⟨rfl, rfl⟩
        go_wp2_with fail
        with_reducible refine CP.out.mono ?_
        rintro e w2 ⟨hb2, A3, c3, rfl, ho2⟩
        have HB2 := Lib.hid (HB.out.trans (hb2.mono HB.out.size))
        have HO2 := Lib.hid (own_le ho2 HB.out.size)
        clear hb2 ho2
        go_wp2_with fail
        go_roundw
        case rel => exact ⟨j + 1 + 1, A3, c3, by omega, by go_num, rfl, by rw [HG1.out]; exact HO2.out, HB2.out⟩
        case measure => simp [intOf]; omega
    · obtain rfl : k = n := by omega
      have hge : ¬ (k : Int) < (k : Int) := by omega
      go_wp2_with fail
      go_ret2
      exact ⟨hbel, A2, c2, rfl, hown⟩
/-! ### A number among positions; changes -/
set_option maxHeartbeats 1000000 in
theorem indexpos_any (A : Option Addr) (c : Nat) (l : List Nat) (x : Nat) (w : World) (h : SlAt w w.heap.size A (posV l)) (hl : l.length ≤ 100000) :
    Calls Tryz.prog 132 #[.slice A l.length c, .int .i64 (x : Int)] w fun e w' => w = w' ∧ ((x ∉ l ∧ e = .returned (.int .i64 (-1))) ∨ (x ∈ l ∧ ∃ k : Nat, e = .returned (.int .i64 k))) := by
  have HS := Lib.hid h
  obtain ⟨n, hn⟩ : ∃ n, l.length = n := ⟨_, rfl⟩
  have HN := Lib.hid hn
  rw [hn] at hl ⊢
  clear h hn
  go_enter Tryz.func132, Tryz.ntmps132
  go_wp2_with fail
  go_loop [8] (fun i => ∃ k : Nat, k ≤ n ∧ i = .int .i64 k ∧ Hid (∀ j y, j < k → l[j]? = some y → y ≠ x)) (fun i => n - (intOf i).toNat)
  case atStart => exact ⟨0, by omega, rfl, Lib.hid (fun j y hj => absurd hj (Nat.not_lt_zero _))⟩
  case round =>
    obtain ⟨k, hk, rfl, HZ⟩ := hrel
    by_cases hlt : k < n
    · obtain ⟨y, hy⟩ : ∃ y, l[k]? = some y := ⟨l[k]'(by rw [HN.out]; exact hlt), List.getElem?_eq_getElem _⟩
      obtain ⟨b, off, hA, hb⟩ := HS.out.posAddr (by rw [HN.out]; omega)
      subst hA
      have q := HS.out.pos rfl hy
      have hltI : (k : Int) < (n : Int) := by omega
      have h0k : (0 : Int) ≤ (k : Int) := by omega
      by_cases h0 : y = x
      · have HM : Hid (x ∈ l) := Lib.hid (by rw [← h0]; exact List.mem_of_getElem? hy)
        have hB : ((x : Int) == (y : Int)) = true := by rw [beq_iff_eq]; omega
        clear hy h0
        go_wp2_with fail
        go_ret
        exact ⟨rfl, .inr ⟨HM.out, k, rfl⟩⟩
      · have HZ1 : Hid (∀ j z, j < k + 1 → l[j]? = some z → z ≠ x) := Lib.hid (fun j z hj hz => by
          by_cases e : j = k
          · subst e; rw [hy] at hz; injection hz with hz; rw [← hz]; exact h0
          · exact HZ.out j z (by omega) hz)
        have hB : ((x : Int) == (y : Int)) = false := by rw [beq_eq_false_iff_ne]; omega
        clear hy h0
        go_wp2_with fail
        go_round
        case rel => exact ⟨k + 1, by omega, by go_num, HZ1⟩
        case measure => simp [intOf]; omega
    · obtain rfl : k = n := by omega
      have hge : ¬ (k : Int) < (k : Int) := by omega
      have HT : Hid (x ∉ l) := Lib.hid (fun hx => by
        obtain ⟨j, hj⟩ := List.getElem?_of_mem hx
        exact HZ.out j x (by have := (List.getElem?_eq_some_iff.1 hj).1; rw [HN.out] at this; exact this) hj rfl)
      go_wp2_with fail
      go_ret
      exact ⟨rfl, .inl ⟨HT.out, rfl⟩⟩
theorem containspos_any (A : Option Addr) (c : Nat) (l : List Nat) (x : Nat) (w : World) (h : SlAt w w.heap.size A (posV l)) (hl : l.length ≤ 100000) :
    Calls Tryz.prog 116 #[.slice A l.length c, .int .i64 (x : Int)] w fun e w' => e = .returned (.bool (decide (x ∈ l))) ∧ w = w' := by
  have C := Lib.hid (indexpos_any A c l x w h hl)
  obtain ⟨n, hn⟩ : ∃ n, l.length = n := ⟨_, rfl⟩
  rw [hn] at C ⊢
  clear h hl hn
  go_enter Tryz.func116, Tryz.ntmps116
  go_wp2_with fail
  refine C.out.mono ?_
  rintro e w1 ⟨rfl, (⟨hx, rfl⟩ | ⟨hx, k, rfl⟩)⟩
  · have HD : Hid (decide (x ∈ l) = false) := Lib.hid (decide_eq_false hx)
    clear hx
    go_wp2_with fail
    go_ret
    exact ⟨ret_bool HD.out.symm, rfl⟩
  · have HD : Hid (decide (x ∈ l) = true) := Lib.hid (decide_eq_true hx)
    have h0k : (0 : Int) ≤ (k : Int) := by omega
    clear hx
    go_wp2_with fail
    go_ret
    exact ⟨ret_bool HD.out.symm, rfl⟩
/-- How many of the first k positions differ; how many of these are not erased. -/
def chK (a b er : List Nat) : Nat → Nat × Nat
  | 0 => (0, 0)
  | k + 1 => if a[k]? = b[k]? then chK a b er k else ((chK a b er k).1 + 1, if k ∈ er then (chK a b er k).2 else (chK a b er k).2 + 1)
theorem chK_le (a b er : List Nat) : ∀ k, (chK a b er k).1 ≤ k ∧ (chK a b er k).2 ≤ k
  | 0 => ⟨Nat.le_refl _, Nat.le_refl _⟩
  | k + 1 => by
    have := chK_le a b er k
    rw [chK]
    split
    · omega
    · dsimp only
      split <;> omega
theorem sN_get {s : ByteArray} {k : Nat} (h : k < s.size) : (sN s)[k]? = some s[k].toNat := by
  unfold sN
  rw [List.getElem?_map, bytes_get s k h]
  rfl
set_option maxHeartbeats 2000000 in
theorem changes_any (a b : ByteArray) (A : Option Addr) (c : Nat) (er : List Nat) (w : World) (h : SlAt w w.heap.size A (posV er)) (ha : a.size ≤ 1000000) (hb : b.size = a.size) (hl : er.length ≤ 100000) :
    Calls Tryz.prog 79 #[.string a, .string b, .slice A er.length c] w fun e w' => e = .returned (.tuple #[.int .i64 ((chK (sN a) (sN b) er a.size).1 : Int), .int .i64 ((chK (sN a) (sN b) er a.size).2 : Int)]) ∧ Below w.heap.size w w' := by
  have CC := Lib.hid (fun w' (hb : Below w.heap.size w w') x => containspos_any A c er x w' ((h.below hb).mono hb.size) hl)
  have HB := Lib.hid hb
  obtain ⟨m, hm⟩ : ∃ m, er.length = m := ⟨_, rfl⟩
  rw [hm] at CC ⊢
  clear h hm hl
  go_enter Tryz.func79, Tryz.ntmps79
  go_wp2_with fail
  go_loopw [8, 9, 13] (fun x y i wr => ∃ k : Nat, k ≤ a.size ∧ i = .int .i64 k ∧ x = .int .i64 ((chK (sN a) (sN b) er k).1 : Int) ∧ y = .int .i64 ((chK (sN a) (sN b) er k).2 : Int) ∧ Below w.heap.size w wr) (fun _ _ i _ => a.size - (intOf i).toNat)
  case atStart => exact ⟨0, by omega, rfl, rfl, rfl, Below.refl _ _⟩
  case round =>
    obtain ⟨k, hk, rfl, rfl, rfl, hbel⟩ := hrel
    by_cases hlt : k < a.size
    · have hltb : k < b.size := by omega
      have hltI : (k : Int) < (a.size : Int) := by omega
      have hltJ : (k : Int) < (b.size : Int) := by omega
      have h0k : (0 : Int) ≤ (k : Int) := by omega
      obtain ⟨hc1, hc2⟩ := chK_le (sN a) (sN b) er k
      have C := Lib.hid (fun w' (hb : Below wr.heap.size wr w') => CC.out w' (hbel.trans (hb.mono hbel.size)) k)
      have HBE := Lib.hid hbel
      by_cases he : a[k].toNat = b[k].toNat
      · have HK : Hid (chK (sN a) (sN b) er (k + 1) = chK (sN a) (sN b) er k) := Lib.hid (by rw [chK, sN_get hlt, sN_get hltb, he, if_pos rfl])
        have heB : ((a[k].toNat : Int) == (b[k].toNat : Int)) = true := by rw [beq_iff_eq]; omega
        generalize chK (sN a) (sN b) er k = R at *
        obtain ⟨R1, R2⟩ := R
        dsimp only at hc1 hc2
        clear hbel
        go_wp2_with fail
        go_quiet (fail)
        go_wp2_with fail
        go_roundw
        case rel => first | exact ⟨k + 1, by omega, by go_num, by rw [HK.out], by rw [HK.out], below_drewN HBE.out _⟩ | ((repeat apply Exists.intro); exact ⟨⟨k + 1, by omega, by simp, by rw [HK.out], by rw [HK.out], below_drewN HBE.out _⟩, rfl⟩)
        case measure => simp [intOf]; omega
      · have heB : ((a[k].toNat : Int) == (b[k].toNat : Int)) = false := by rw [beq_eq_false_iff_ne]; omega
        by_cases hin : k ∈ er
        · have HK : Hid (chK (sN a) (sN b) er (k + 1) = ((chK (sN a) (sN b) er k).1 + 1, (chK (sN a) (sN b) er k).2)) := Lib.hid (by rw [chK, sN_get hlt, sN_get hltb, if_neg (by simpa using he), if_pos hin])
          rw [decide_eq_true hin] at C
          generalize chK (sN a) (sN b) er k = R at *
          obtain ⟨R1, R2⟩ := R
          dsimp only at hc1 hc2
          clear hbel
          go_wp2_with fail
          go_quiet (fail)
          go_wp2_with fail
          refine (C.out _ (below_drewN (Below.refl _ _) _)).mono ?_
          rintro e w2 ⟨rfl, rfl⟩
          go_wp2_with fail
          go_roundw
          case rel => first | exact ⟨k + 1, by omega, by go_num, by rw [HK.out]; simp, by rw [HK.out], below_drewN HBE.out _⟩ | ((repeat apply Exists.intro); exact ⟨⟨k + 1, by omega, by simp, by rw [HK.out]; simp, by rw [HK.out], below_drewN HBE.out _⟩, rfl⟩)
          case measure => simp [intOf]; omega
        · have HK : Hid (chK (sN a) (sN b) er (k + 1) = ((chK (sN a) (sN b) er k).1 + 1, (chK (sN a) (sN b) er k).2 + 1)) := Lib.hid (by rw [chK, sN_get hlt, sN_get hltb, if_neg (by simpa using he), if_neg hin])
          rw [decide_eq_false hin] at C
          generalize chK (sN a) (sN b) er k = R at *
          obtain ⟨R1, R2⟩ := R
          dsimp only at hc1 hc2
          clear hbel
          go_wp2_with fail
          go_quiet (fail)
          go_wp2_with fail
          refine (C.out _ (below_drewN (Below.refl _ _) _)).mono ?_
          rintro e w2 ⟨rfl, rfl⟩
          go_wp2_with fail
          go_roundw
          case rel => first | exact ⟨k + 1, by omega, by go_num, by rw [HK.out]; simp, by rw [HK.out]; simp, below_drewN HBE.out _⟩ | ((repeat apply Exists.intro); exact ⟨⟨k + 1, by omega, by simp, by rw [HK.out]; simp, by rw [HK.out]; simp, below_drewN HBE.out _⟩, rfl⟩)
          case measure => simp [intOf]; omega
    · obtain rfl : k = a.size := by omega
      have hge : ¬ (a.size : Int) < (a.size : Int) := by omega
      go_wp2_with fail
      go_ret2
      exact ⟨rfl, hbel⟩
end Go.Proofs.YtlnjphggfbiabaaGreat

/-
  reedsolomon: the value of a polynomial (a range over slices.Backward).
-/
namespace Go.Proofs.YtlnjphggfbiabaaGreat
open Go.RowKit Go.Shelf
set_option linter.unusedVariables false
attribute [local go_sem] Oper.semAt_some

abbrev PrG := { z : Nat × Nat // z.2 < 256 }
def encB (x : PrG) : Array Value := #[.int .i64 (x.1.1 : Int), .int .u8 (x.1.2 : Int)]
/-- What a round that goes on keeps: what was there, and the cells of the iterator. -/
def KpP (n0 : Nat) (W W' : World) : Prop := Below n0 W W' ∧ ∀ g cs, RowAt W g 130 cs → RowAt W' g 130 cs
theorem KpP.trans {n0 : Nat} {A B C : World} (h : KpP n0 A B) (k : KpP n0 B C) : KpP n0 A C := ⟨h.1.trans k.1, fun g cs hr => k.2 g cs (h.2 g cs hr)⟩
theorem KpP.putObj {n0 : Nat} {W : World} {l : Nat} {o o' : Obj} (hn : n0 ≤ l) (h : W.heap[l]? = some o) (hc : o.isCells = false) : KpP n0 W (W.putObj l o') := by
  refine ⟨(Below.refl n0 W).grown (grownBy_putObj' W l o') (by have := (Array.getElem?_eq_some_iff.1 h).1; omega) (fun k e => by cases e; omega), fun g cs hr => ?_⟩
  refine ((grownBy_putObj' W l o').block g hr.lt fun e => ?_).trans hr
  injection e with e
  subst e
  unfold RowAt at hr
  rw [hr] at h
  injection h with h
  subst h
  cases hc
theorem KpP.setCell {n0 : Nat} {W : World} {g : Nat} {t : TypeId} {cs : Array Value} (h : RowAt W g t cs) (hn : n0 ≤ g) (h1 : t ≠ 130) (j : Nat) (v : Value) : KpP n0 W (W.setCell ⟨g, j, none⟩ v) :=
  ⟨(Below.refl n0 W).setCell (p := ⟨g, j, none⟩) hn _, fun g' cs' hr => hr.far (p := ⟨g, j, none⟩) (by
    show g' ≠ g
    intro e
    subst e
    unfold RowAt at h hr
    rw [h] at hr
    injection hr with hr
    injection hr with _ e2
    exact h1 e2) v⟩
theorem take_next {α : Type} {l : List α} {k : Nat} {x : α} (h : l[k]? = some x) : l.take (k + 1) = l.take k ++ [x] := by
  rw [List.take_add_one, h]
  rfl
/-- The elements from the last to the first, each with its place. -/
def bwL (p : List Nat) : List (Nat × Nat) := (List.range p.length).map fun k => (p.length - 1 - k, p[p.length - 1 - k]?.getD 0)
theorem bwL_length (p : List Nat) : (bwL p).length = p.length := by simp [bwL]
set_option maxRecDepth 100000 in
set_option maxHeartbeats 4000000 in
theorem back1_in (F : Fence) (n : Nat) (h78 : F.fn 137) (hro : F.round = none) (hn : 1 ≤ n) (l B n0 : Nat) (A : Option Addr) (c : Nat) (p : List Nat) (ys : List PrG) (hys : ys.map (·.1) = bwL p)
    (hpl : p.length ≤ 1000000) (J Jx : List PrG → World → Prop)
    (hY : ∀ pre x W, J pre W → pre.length < p.length → YieldAt F (n - 1) Tryz.prog l (encB x) W fun e W' =>
      (e = .returned (.bool true) ∧ J (pre ++ [x]) W' ∧ KpP n0 W W') ∨ (e = .returned (.bool false) ∧ Jx (pre ++ [x]) W'))
    (W : World) (hBn : RowAt W B 130 #[.slice A p.length c]) (hW : SlAt W n0 A (natV p)) (hn0 : n0 ≤ W.heap.size) (h0 : J [] W) :
    CallsIn F n Tryz.prog 137 #[.func (.yield l) #[] #[], .pointer (some ⟨B, 0, none⟩)] W fun e W' => (∃ v, e = .returned v) ∧
      ((∃ zs, zs = ys ∧ J zs W') ∨ (∃ pre, pre <+: ys ∧ Jx pre W')) := by
  refine callsIn_of_wp Tryz.func137 rfl h78 ?_ hro
  simp only [Tryz.ntmps137, List.size_toArray, List.length_cons, List.length_nil, Nat.reduceAdd, Nat.reduceSub, Array.replicate_succ, Array.replicate_zero, List.push_toArray, List.append_toArray, List.nil_append, List.cons_append]
  have HL : Hid (ys.length = p.length) := Lib.hid (by have := congrArg List.length hys; rw [List.length_map, bwL_length] at this; exact this)
  have HG : Hid (∀ k y, k < p.length → p[p.length - 1 - k]? = some y → ∃ z : PrG, ys[k]? = some z ∧ z.1 = (p.length - 1 - k, y)) := Lib.hid (fun k y hk hy => by
    have e : (ys.map (·.1))[k]? = some (p.length - 1 - k, y) := by
      rw [hys]
      unfold bwL
      rw [List.getElem?_map, List.getElem?_range hk, Option.map_some, hy, Option.getD_some]
    rw [List.getElem?_map] at e
    exact Option.map_eq_some_iff.1 e)
  obtain ⟨m, hm⟩ : ∃ m, p.length = m := ⟨_, rfl⟩
  have HM := Lib.hid hm
  rw [hm] at hpl hBn HL HG hY
  have q := hBn.cell
  have HB := Lib.hid hBn
  clear hm hBn hys
  gi_wp2
  clear q
  gi_loopw [3] (fun v wr => ∃ k : Nat, k ≤ m ∧ v = .int .i64 ((m : Int) - 1 - (k : Int)) ∧ RowAt wr B 130 #[.slice A m c] ∧ SlAt wr n0 A (natV p) ∧ n0 ≤ wr.heap.size ∧ J (ys.take k) wr) (fun v _ => (intOf v + 1).toNat)
  case atStart => exact ⟨0, by omega, by simp, HB.out, hW, hn0, by simpa using h0⟩
  case round =>
    clear HB hW hn0 h0
    obtain ⟨k, hk, rfl, hr, hWr, hnr, hJs⟩ := hrel
    by_cases hlt : k < m
    · obtain ⟨y, hy⟩ : ∃ y, p[m - 1 - k]? = some y := ⟨p[m - 1 - k]'(by rw [HM.out]; omega), List.getElem?_eq_getElem _⟩
      obtain ⟨b, off, hA, hbk⟩ := hWr.natAddr (by rw [HM.out]; omega)
      subst hA
      have q2 := hr.cell
      have q1 := hWr.nat rfl hy
      obtain ⟨j, hj⟩ : ∃ j, m - 1 - k = j := ⟨_, rfl⟩
      obtain ⟨z, hz1, hz2⟩ := HG.out k y hlt hy
      have HY1 := Lib.hid hz1
      rw [hj] at q1 hz2
      have hji : (m : Int) - 1 - (k : Int) = (j : Int) := by omega
      have h0j : (0 : Int) ≤ (j : Int) := by omega
      have hjm : (j : Int) < (m : Int) := by omega
      have HT1 := Lib.hid (take_next HY1.out)
      obtain ⟨fn, tmps, assign, body, hyy, hR⟩ := hY (ys.take k) z wr hJs (by rw [List.length_take, HL.out]; omega)
      unfold encB at hyy
      rw [hz2] at hyy
      dsimp only at hyy
      rw [hji]
      clear hy hj hz1 hz2
      gi_wp2
      refine hR.mono ?_
      rintro e W3 (⟨rfl, hJ3, hk3⟩ | ⟨rfl, hJx3⟩)
      · rw [← HT1.out] at hJ3
        have hr3 := hk3.2 _ _ hr
        have hW3 := hWr.below hk3.1
        have hn3 : n0 ≤ W3.heap.size := Nat.le_trans hnr hk3.1.size
        clear hR hk3 q1 q2
        gi_wp2
        go_roundw
        case rel => exact ⟨k + 1, by omega, by first | (congr 1; omega) | go_num, hr3, hW3, hn3, hJ3⟩
        case measure => simp [intOf]; try omega
      · rw [← HT1.out] at hJx3
        gi_wp2
        refine bodyPost_ret (results_none rfl _ _ _) rfl ?_
        exact ⟨⟨_, rfl⟩, .inr ⟨_, List.take_prefix _ _, hJx3⟩⟩
    · obtain rfl : k = m := by omega
      have hge : ¬ (0 : Int) ≤ (k : Int) - 1 - (k : Int) := by omega
      have hfin : ys.take k = ys := by rw [List.take_of_length_le (by rw [HL.out]; exact Nat.le_refl _)]
      rw [hfin] at hJs
      clear hfin
      gi_wp2
      go_end0
      exact ⟨⟨_, rfl⟩, .inl hJs⟩
theorem back_in (F : Fence) (n : Nat) (h58 : F.fn 131) (hro : F.round = none) (A : Option Addr) (k c : Nat) (w : World) :
    CallsIn F n Tryz.prog 131 #[.slice A k c] w fun e w' => e = .returned (.func (.func 137) #[] #[.pointer (some ⟨w.heap.size, 0, none⟩)]) ∧ w' = w.alloc (.cells #[.slice A k c] 130) := by
  refine callsIn_of_wp Tryz.func131 rfl h58 ?_ hro
  simp only [Tryz.ntmps131, List.size_toArray, List.length_cons, List.length_nil, Nat.reduceAdd, Nat.reduceSub, Array.replicate_succ, Array.replicate_zero, List.push_toArray, List.append_toArray, List.nil_append, List.cons_append]
  gi_wp2
  go_ret
  exact ⟨rfl, rfl⟩
theorem back_stops (F : Fence) (n : Nat) (h78 : F.fn 137) (hro : F.round = none) (hn : 1 ≤ n) (B n0 : Nat) (A : Option Addr) (c : Nat) (p : List Nat) (ys : List PrG) (hys : ys.map (·.1) = bwL p)
    (hpl : p.length ≤ 1000000) (w : World) (hB : RowAt w B 130 #[.slice A p.length c]) (hW : SlAt w n0 A (natV p)) (hn0 : n0 ≤ w.heap.size) :
    SeqStopsK F n Tryz.prog 137 #[.pointer (some ⟨B, 0, none⟩)] encB (KpP n0) (fun zs => zs = ys) (fun pre => pre <+: ys) p.length w := fun l J Jx W hWb hJ _ hY h0 =>
  back1_in F n h78 hro hn l B n0 A c p ys hys hpl J Jx hY W (hB.below hWb hB.lt) (hW.below (hWb.mono hn0)) (Nat.le_trans hn0 hWb.size) h0
/-- The value of a polynomial, the coefficient of the lowest power first. -/
def atN (p : List Nat) (x : Nat) : Nat := evalN p.reverse x
def atL (x : Nat) (zs : List PrG) : Nat := zs.foldl (fun s z => mulN s x ^^^ z.1.2) 0
theorem bw_ex {p : List Nat} (h : B8 p) : ∃ ys : List PrG, ys.map (·.1) = bwL p := by
  have : ∀ l : List (Nat × Nat), (∀ z ∈ l, z.2 < 256) → ∃ ys : List PrG, ys.map (·.1) = l := by
    intro l
    induction l with
    | nil => exact fun _ => ⟨[], rfl⟩
    | cons z l ih =>
      intro hz
      obtain ⟨ys, hys⟩ := ih (fun y hy => hz y (List.mem_cons_of_mem _ hy))
      exact ⟨⟨z, hz z List.mem_cons_self⟩ :: ys, by rw [List.map_cons, hys]⟩
  refine this _ fun z hz => ?_
  obtain ⟨k, _, rfl⟩ := List.mem_map.1 hz
  exact h.getD _
theorem atL_bw {p : List Nat} {x : Nat} {ys : List PrG} (hys : ys.map (·.1) = bwL p) : atL x ys = atN p x := by
  unfold atL atN evalN evalK
  have h : p.reverse = (bwL p).map (·.2) := by
    apply List.ext_getElem?
    intro k
    by_cases hk : k < p.length
    · rw [List.getElem?_reverse hk, List.getElem?_map]
      unfold bwL
      rw [List.getElem?_map, List.getElem?_range hk, Option.map_some, Option.map_some, List.getElem?_eq_getElem (by omega), Option.getD_some]
    · rw [List.getElem?_eq_none (by simp; omega), List.getElem?_eq_none (by rw [List.length_map, bwL_length]; omega)]
  rw [h, ← hys, List.map_map, List.foldl_map]
  rfl
theorem atL_snoc (x : Nat) (pre : List PrG) (z : PrG) : atL x (pre ++ [z]) = mulN (atL x pre) x ^^^ z.1.2 := by
  unfold atL
  rw [List.foldl_append]
  rfl
theorem atL_lt {x : Nat} : ∀ (pre : List PrG) (s : Nat), s < 256 → pre.foldl (fun s z => mulN s x ^^^ z.1.2) s < 256
  | [], _, h => h
  | z :: pre, s, h => atL_lt pre _ (Nat.xor_lt_two_pow (n := 8) (mulN_lt h) z.2)
set_option maxRecDepth 100000 in
set_option maxHeartbeats 4000000 in
theorem at_any (A : Option Addr) (c : Nat) (p : List Nat) (x : Nat) (w : World) (h : SlAt w w.heap.size A (natV p)) (hp : B8 p) (hl : p.length ≤ 1000000) (hx : x < 256) :
    Calls Tryz.prog 115 #[.slice A p.length c, .int .u8 (x : Int)] w fun e w' => e = .returned (.int .u8 ((atN p x : Nat) : Int)) ∧ Below w.heap.size w w' := by
  have HW := Lib.hid h
  have HP := Lib.hid hp
  obtain ⟨ys, hys⟩ := bw_ex hp
  have HA := Lib.hid (atL_bw (x := x) hys)
  have HYS := Lib.hid hys
  obtain ⟨m, hm⟩ : ∃ m, p.length = m := ⟨_, rfl⟩
  have HM := Lib.hid hm
  have hl2 := hl
  rw [hm] at hl ⊢
  clear h hm hp hys
  refine (callsIn_wide (n := 5)).1 ?_
  refine callsIn_of_wp_marks Tryz.func115 rfl trivial ?_ rfl
  simp only [Tryz.ntmps115, List.size_toArray, List.length_cons, List.length_nil, Nat.reduceAdd, Nat.reduceSub, Array.replicate_succ, Array.replicate_zero, List.push_toArray, List.append_toArray, List.nil_append, List.cons_append]
  gi_wp2_with (refine ⟨trivial, ?_⟩; gi_at_call 131; refine (back_in Fence.wide 4 trivial rfl _ _ _ _).mono ?_; rintro e w' ⟨rfl, rfl⟩)
  have h2 := (((St.start w).new (g := w.heap.size) rfl #[.int .u8 (x : Int)] 5).new (g := w.heap.size + 1) (by simp) #[.int .u8 0] 5).new (g := w.heap.size + 1 + 1) (by simp) #[.slice A m c] 130
  have hsz : (((w.alloc (.cells #[.int .u8 (x : Int)] 5)).alloc (.cells #[.int .u8 0] 5)).alloc (.cells #[.slice A m c] 130)).heap.size = w.heap.size + 3 := by simp
  generalize ((w.alloc (.cells #[.int .u8 (x : Int)] 5)).alloc (.cells #[.int .u8 0] 5)).alloc (.cells #[.slice A m c] 130) = W2 at *
  have hbox := h2.at (i := 0) rfl
  refine wpIn_rangeFunc_ownG rfl (by omega) (gf := 137) (lb := #[.pointer (some ⟨w.heap.size + 1 + 1, 0, none⟩)]) rfl trivial (enters_of Tryz.func137 (by kernel_rfl) rfl)
    (back_stops Fence.wide 4 trivial rfl (by omega) (w.heap.size + 1 + 1) w.heap.size A c p ys HYS.out hl2 W2 (by rw [HM.out]; exact hbox) (HW.out.below h2.bel) h2.bel.size) KpP.trans (fun W l o o' hl ho hc _ => KpP.putObj (by omega) ho hc) (Below.refl _ _) (fun _ => rfl)
    (fun pre W => St w W [(w.heap.size + 1 + 1, 130, #[.slice A m c]), (w.heap.size + 1, 5, #[.int .u8 ((atL x pre : Nat) : Int)]), (w.heap.size, 5, #[.int .u8 (x : Int)])]) (fun _ _ _ => False) ?hI (fun _ _ _ _ _ hs _ _ => hs) ?h0
    (fun z => { tmps := #[.slice A m c, .int .u8 (x : Int), undef, .pointer (some ⟨w.heap.size, 0, none⟩), .int .u8 0, .pointer (some ⟨w.heap.size + 1, 0, none⟩), undef, .int .u8 (z.1.2 : Int), .slice A m c, .func (.func 137) #[] #[.pointer (some ⟨w.heap.size + 1 + 1, 0, none⟩)], .int .i64 (z.1.1 : Int), .int .u8 (z.1.2 : Int), undef, undef, undef, undef, undef, undef], defers := [] }) ?assign ?body ?done ?stop
  case hI =>
    rintro pre A1 B1 row hm hg hr
    exact hm.keep_own hg (fun r e => ⟨by have := (hr r e).1; omega, (hr r e).2⟩)
  case h0 => exact h2
  case assign =>
    intro l z W K hK
    dsimp only [encB]
    gi_wp2
    exact hK
  case body =>
    rintro l pre z W hm hlt
    obtain ⟨⟨zi, zv⟩, hz⟩ := z
    dsimp only at hz
    have q1 := (hm.at (i := 1) rfl).cell
    have f1 := (hm.at (i := 1) rfl).frozen
    have q2 := (hm.at (i := 2) rfl).cell
    have hs8 : atL x pre < 256 := atL_lt pre 0 (by decide)
    have HSN := Lib.hid (atL_snoc x pre ⟨(zi, zv), hz⟩)
    obtain ⟨S, hS⟩ : ∃ S, atL x pre = S := ⟨_, rfl⟩
    rw [hS] at q1 hs8 hm HSN
    have C := Lib.hid (mul_any S x W hs8 hx)
    have hM8 := mulN_lt (b := x) hs8
    have hX := u8_xor_nat (mulN S x) zv hM8 hz
    have hst := hm.set 1 rfl 0 (.int .u8 ((atL x (pre ++ [⟨(zi, zv), hz⟩]) : Nat) : Int))
    rw [HSN.out] at hst
    dsimp only at hst
    generalize mulN S x = M at *
    clear hS
    gi_wp2
    refine ⟨trivial, ?_⟩
    refine (CallsIn.inRound l (callsIn_wide.2 C.out)).mono ?_
    rintro e W1 ⟨rfl, rfl⟩
    gi_wp2
    exact ⟨(KeepsOthers.setCell _ _ _).from _, KpP.setCell (hm.at (i := 1) rfl) (by omega) (by decide) _ _, by dsimp only; rw [HSN.out]; exact hst⟩
  case done =>
    rintro D ys' W hD rfl hm hK
    have q := (hm.at (i := 1) rfl).cell
    rw [HA.out] at q
    gi_wp2
    refine ⟨by simp, .inl ⟨_, _, rfl, run_takeDeferred hK, ?_⟩⟩
    refine ⟨_, results_tmp rfl _ _ _, rfl, ?_⟩
    exact hm.bel.grown (grownBy_putObj' W D (.deferred none)) hm.bel.size (fun k e => by cases e; omega)
  case stop =>
    rintro D c pre W _ _ h _
    exact h.elim
end Go.Proofs.YtlnjphggfbiabaaGreat
