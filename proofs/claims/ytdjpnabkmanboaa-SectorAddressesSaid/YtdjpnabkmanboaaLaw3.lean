/-
  The walk of the law SectorAddresses.
-/
import Derived.Test.YtdjpnabkmanboaaLaw2
import Derived.Deep.Cut
import Derived.BigQuiet
import Derived.Handy
namespace Go.Proofs.Ytdjpnabkmanboaa
open Go.RowKit
set_option linter.unusedVariables false

theorem mid_eq {P M M' R : List UInt8} (hl : M.length = M'.length) {i : Nat} (h : i < P.length ∨ P.length + M.length ≤ i) : (P ++ (M ++ R))[i]? = (P ++ (M' ++ R))[i]? := by
  rcases h with h | h
  · rw [List.getElem?_append_left h, List.getElem?_append_left h]
  · rw [List.getElem?_append_right (by omega), List.getElem?_append_right (by omega), List.getElem?_append_right (by omega), List.getElem?_append_right (by omega), hl]

/-- The sector with another address. -/
def reLba (x : Sec) (n : Int) : Sec := { x with lba := n }
def msN (n : Int) : List UInt8 := msfBs ((n + 150) / 75 / 60) ((n + 150) / 75 % 60) ((n + 150) % 75)
def tail2 (x : Sec) : List UInt8 := [UInt8.ofNat (lByte x.mode).toNat] ++ (subBs x ++ subBs x) ++ x.data.data.toList ++ codeL (subBs x ++ subBs x ++ x.data.data.toList) 0 ++ List.replicate (2352 - (28 + x.data.data.toList.length)) 0
theorem two_form {x : Sec} (hm : x.mode ≠ 0) : buildL x = syncL ++ (msN x.lba ++ tail2 x) := by
  have hc : lCov x.mode = 16 := if_neg hm
  have h1 : codedL x = syncL ++ (msN x.lba ++ ([UInt8.ofNat (lByte x.mode).toNat] ++ (subBs x ++ subBs x) ++ x.data.data.toList ++ codeL (subBs x ++ subBs x ++ x.data.data.toList) 0)) := by
    rw [show codedL x = preL x ++ codeL (preL x) 16 by unfold codedL; rw [hc]; rfl, show preL x = headL x ++ (subBs x ++ subBs x) ++ x.data.data.toList from if_neg hm,
      show codeL (headL x ++ (subBs x ++ subBs x) ++ x.data.data.toList) 16 = codeL (subBs x ++ subBs x ++ x.data.data.toList) 0 by
        unfold codeL
        rw [List.append_assoc, List.drop_left' (show (headL x).length = 16 from rfl)]
        rfl]
    rw [show headL x = syncL ++ msN x.lba ++ [UInt8.ofNat (lByte x.mode).toNat] from rfl]
    simp only [List.append_assoc]
  have h2 : (codedL x).length = 28 + x.data.data.toList.length := by
    rw [h1]
    simp only [List.length_append, codeL_len, show syncL.length = 12 from rfl, show (msN x.lba).length = 3 from rfl, show (subBs x).length = 4 from rfl, List.length_cons, List.length_nil]
    omega
  unfold buildL
  rw [h2, h1]
  unfold tail2
  simp only [List.append_assoc]
def mid1 (x : Sec) : List UInt8 := [UInt8.ofNat (lByte x.mode).toNat] ++ x.data.data.toList
def end1 (x : Sec) : List UInt8 := List.replicate (2352 - (20 + x.data.data.toList.length)) 0
theorem one_form {x : Sec} (hm : x.mode = 0) : buildL x = syncL ++ (msN x.lba ++ (mid1 x ++ (codeL (preL x) 0 ++ end1 x))) := by
  have hc : lCov x.mode = 0 := if_pos hm
  have hp : preL x = syncL ++ (msN x.lba ++ mid1 x) := by
    rw [show preL x = headL x ++ x.data.data.toList from if_pos hm, show headL x = syncL ++ msN x.lba ++ [UInt8.ofNat (lByte x.mode).toNat] from rfl]
    unfold mid1
    simp only [List.append_assoc]
  have h1 : codedL x = preL x ++ codeL (preL x) 0 := by unfold codedL; rw [hc]; rfl
  have h2 : (codedL x).length = 20 + x.data.data.toList.length := by
    rw [h1, hp]
    unfold mid1
    simp only [List.length_append, codeL_len, show syncL.length = 12 from rfl, show (msN x.lba).length = 3 from rfl, List.length_cons, List.length_nil]
    omega
  unfold buildL
  rw [h2, h1]
  unfold end1
  generalize codeL (preL x) 0 = C
  rw [hp]
  simp only [List.append_assoc]
theorem addr_diff {x : Sec} {n : Int} (hv : validB x = true) {i : Nat} (h : i < 12 ∨ (15 ≤ i ∧ (x.mode ≠ 0 ∨ i < 2064)) ∨ 2068 ≤ i) : (buildL x)[i]? = (buildL (reLba x n))[i]? := by
  have hl : (msN x.lba).length = (msN n).length := rfl
  have h3 : (msN x.lba).length = 3 := rfl
  have h12 : syncL.length = 12 := rfl
  by_cases hm : x.mode = 0
  · rw [one_form hm, one_form (x := reLba x n) hm]
    rw [show (reLba x n).lba = n from rfl, show mid1 (reLba x n) = mid1 x from rfl, show end1 (reLba x n) = end1 x from rfl]
    rw [mid_eq hl (by omega)]
    have hd : (mid1 x).length = 2049 := by
      obtain ⟨_, _, _, h⟩ := valid_parts hv
      have : x.data.data.toList.length = x.data.size := by simp
      unfold mid1
      rw [List.length_append, this, show lCap x.mode = 2048 by rw [hm]; rfl] at *
      simp only [List.length_cons, List.length_nil]
      omega
    have e : ∀ C, syncL ++ (msN n ++ (mid1 x ++ (C ++ end1 x))) = (syncL ++ msN n ++ mid1 x) ++ (C ++ end1 x) := fun C => by simp only [List.append_assoc]
    rw [e, e]
    refine mid_eq (M := codeL (preL x) 0) (M' := codeL (preL (reLba x n)) 0) rfl ?_
    rw [List.length_append, List.length_append, hd, codeL_len, ← hl, h3, h12]
    omega
  · rw [two_form hm, two_form (x := reLba x n) hm]
    rw [show (reLba x n).lba = n from rfl, show tail2 (reLba x n) = tail2 x from rfl]
    exact mid_eq hl (by omega)
theorem addr_part {x : Sec} : ((buildL x).take 15).drop 12 = msN x.lba := by
  obtain ⟨r, hr⟩ := build_head x
  rw [hr, show headL x = syncL ++ msN x.lba ++ [UInt8.ofNat (lByte x.mode).toNat] from rfl]
  rw [List.append_assoc, List.take_left' (show (syncL ++ msN x.lba).length = 15 from rfl), List.drop_left' (show syncL.length = 12 from rfl)]
theorem msN_inj {a b : Int} (ha : -150 ≤ a ∧ a ≤ 449849) (hb : -150 ≤ b ∧ b ≤ 449849) (h : msN a = msN b) : a = b := by
  unfold msN msfBs at h
  simp only [List.cons.injEq, and_true] at h
  obtain ⟨h1, h2, h3⟩ := h
  have k : ∀ {p q : Int}, 0 ≤ p → p < 100 → 0 ≤ q → q < 100 → bcdB p = bcdB q → p = q := by
    intro p q p0 p1 q0 q1 e
    have e1 := bcdB_nat p0 p1
    have e2 := bcdB_nat q0 q1
    rw [e, e2, bcdV_ok p0 (by omega), bcdV_ok q0 (by omega)] at e1
    omega
  have k1 := k (by omega) (by omega) (by omega) (by omega) h1
  have k2 := k (by omega) (by omega) (by omega) (by omega) h2
  have k3 := k (by omega) (by omega) (by omega) (by omega) h3
  omega

theorem buildR_two (x : Sec) : ∃ (s : ByteArray) (e : Int), buildR x = .tuple #[.string s, .int .i64 e] ∧ ((validB x = true ∧ s = ⟨(buildL x).toArray⟩ ∧ e = 0) ∨ e = 1) := by
  cases hv : validB x with
  | false => exact ⟨_, _, if_neg (by simp [hv]), .inr rfl⟩
  | true => exact ⟨_, _, if_pos hv, .inl ⟨rfl, rfl, rfl⟩⟩
theorem cell_eq {x : Sec} {n : Int} (hv : validB x = true) (k : Nat) (A B : ByteArray) (hA : A = ⟨(buildL x).toArray⟩) (hB : B = ⟨(buildL (reLba x n)).toArray⟩) (ha : k < A.size) (hb : k < B.size)
    (h : k < 12 ∨ (15 ≤ k ∧ (x.mode ≠ 0 ∨ k < 2064)) ∨ 2068 ≤ k) : A[k] = B[k] := by
  have := addr_diff (n := n) hv h
  have e1 := bcell? A k ha
  have e2 := bcell? B k hb
  rw [show A.data.toList = buildL x by rw [hA, list_str]] at e1
  rw [show B.data.toList = buildL (reLba x n) by rw [hB, list_str]] at e2
  rw [e1, e2] at this
  exact Option.some.inj this
theorem part_cmp {x : Sec} {n : Int} (hv : validB x = true) (hv2 : validB (reLba x n) = true) (A B : ByteArray) (hA : A = ⟨(buildL x).toArray⟩) (hB : B = ⟨(buildL (reLba x n)).toArray⟩) :
    (((A.extract 12 15).toList == (B.extract 12 15).toList) == (x.lba == n)) = true := by
  obtain ⟨_, a1, a2, _⟩ := valid_parts hv
  obtain ⟨_, c1, c2, _⟩ := valid_parts hv2
  have c1 : -150 ≤ n := c1
  have c2 : n ≤ 449849 := c2
  rw [Lib.toList_data, Lib.toList_data, sub_extract, sub_extract, show A.data.toList = buildL x by rw [hA, list_str], show B.data.toList = buildL (reLba x n) by rw [hB, list_str], addr_part, addr_part]
  rw [show (reLba x n).lba = n from rfl, beq_iff_eq, Bool.eq_iff_iff, beq_iff_eq, beq_iff_eq]
  exact ⟨fun h => msN_inj ⟨a1, a2⟩ ⟨c1, c2⟩ h, fun h => by rw [h]⟩

set_option maxRecDepth 100000 in
set_option maxHeartbeats 8000000 in
theorem addresses_walk (x : Sec) (n : Int) (w : World) (hx : SecIn x) (hn : (Lit.int IntKind.i64 n).wf = true) :
    Calls Try.prog 4 #[secV x, .int .i64 n] w fun e w' => e = .returned (.bool true) ∧ Below w.heap.size w w' := by
  have C0 := Lib.hid (fun w => awake_any w)
  have hd := hx.data
  have hn := wf64 hn
  have C1 := Lib.hid (fun w => build_any x w hx.lba.1 hd)
  have C2 := Lib.hid (fun w => build_any (reLba x n) w hn.1 hd)
  obtain ⟨A, ea, hb1, hA⟩ := buildR_two x
  obtain ⟨B, eb, hb2, hB⟩ := buildR_two (reLba x n)
  rw [hb1] at C1
  rw [hb2] at C2
  clear hb1 hb2 hd hn hx
  by_cases hv : ea = 0 ∧ eb = 0
  · obtain ⟨v1, hA2, rfl⟩ := hA.resolve_right (by omega)
    obtain ⟨v2, hB2, rfl⟩ := hB.resolve_right (by omega)
    clear hA hB
    have zA : A.size = 2352 := by rw [hA2, str_size, build_len v1]
    have zB : B.size = 2352 := by rw [hB2, str_size, build_len v2]
    have HC := Lib.hid (fun k => cell_eq (n := n) v1 k A B hA2 hB2)
    have HP := Lib.hid (part_cmp v1 v2 A B hA2 hB2)
    clear v1 v2 hA2 hB2 hv
    obtain ⟨lba, mode, fi, ch, su, co, data⟩ := x
    rw [reLba] at C2
    rw [secV] at *
    dsimp only at *
    have zA1 : ((A.size : Int) != 2352) = false := by rw [zA]; rfl
    have zB1 : ((B.size : Int) != 2352) = false := by rw [zB]; rfl
    go_enter Try.func4, Try.ntmps4
    go_wp2_with fail
    refine (C0.out _).mono ?_
    rintro r w1 ⟨rfl, hb1⟩
    have hs1 : w.heap.size < w1.heap.size := by have := hb1.size; simp at this; omega
    have hr1 : RowAt w1 w.heap.size 25 _ := (RowAt.new w _ _).below hb1 (by simp)
    have q1 := hr1.cell
    have b1 : Below w.heap.size w w1 := ((Below.refl _ _).alloc (Nat.le_refl _) _).trans (hb1.mono (by simp))
    go_wp2_with fail
    have hr2 := hr1.alloc (.cells #[.int .i64 n, .int .i64 mode, .int .i64 fi, .int .i64 ch, .int .i64 su, .int .i64 co, .string data] 25)
    have hy2 := RowAt.new w1 25 #[.int .i64 n, .int .i64 mode, .int .i64 fi, .int .i64 ch, .int .i64 su, .int .i64 co, .string data]
    have b2 := b1.alloc b1.size (.cells #[.int .i64 n, .int .i64 mode, .int .i64 fi, .int .i64 ch, .int .i64 su, .int .i64 co, .string data] 25)
    have hg2 : w1.heap.size < (w1.alloc (.cells #[.int .i64 n, .int .i64 mode, .int .i64 fi, .int .i64 ch, .int .i64 su, .int .i64 co, .string data] 25)).heap.size := hy2.lt
    refine (C1.out _).mono ?_
    rintro r w3 ⟨rfl, hb3⟩
    have hs3 : w.heap.size < w3.heap.size := by have := hb3.size; omega
    have hg3 : w1.heap.size < w3.heap.size := by have := hb3.size; omega
    have hr3 := hr2.below hb3 (by omega)
    have hy3 := hy2.below hb3 (by omega)
    have b3 : Below w.heap.size w w3 := b2.trans (hb3.mono b2.size)
    have q3 := hr3.cell
    have y0 : w3.cell? ⟨w1.heap.size, 0, none⟩ = some (.int .i64 n) := hy3.cell 0
    have y1 : w3.cell? ⟨w1.heap.size, 1, none⟩ = some (.int .i64 mode) := hy3.cell 1
    have y2 : w3.cell? ⟨w1.heap.size, 2, none⟩ = some (.int .i64 fi) := hy3.cell 2
    have y3 : w3.cell? ⟨w1.heap.size, 3, none⟩ = some (.int .i64 ch) := hy3.cell 3
    have y4 : w3.cell? ⟨w1.heap.size, 4, none⟩ = some (.int .i64 su) := hy3.cell 4
    have y5 : w3.cell? ⟨w1.heap.size, 5, none⟩ = some (.int .i64 co) := hy3.cell 5
    have y6 : w3.cell? ⟨w1.heap.size, 6, none⟩ = some (.string data) := hy3.cell 6
    clear q1 hr2 hy2 b2 hb3 hr1 b1 hb1
    go_wp2_with fail
    refine (C2.out _).mono ?_
    rintro r w4 ⟨rfl, hb4⟩
    have hs4 : w.heap.size < w4.heap.size := by have := hb4.size; omega
    have hr4 := hr3.below hb4 hs3
    have q4 := hr4.cell
    have b4 : Below w.heap.size w w4 := b3.trans (hb4.mono b3.size)
    clear q3 hr3 hy3 y0 y1 y2 y3 y4 y5 y6 hb4 b3
    go_wp2_with fail
    go_loopw [44] (fun i wr => ∃ k : Nat, k ≤ 2352 ∧ i = .int .i64 k ∧ RowAt wr w.heap.size 25 #[.int .i64 lba, .int .i64 mode, .int .i64 fi, .int .i64 ch, .int .i64 su, .int .i64 co, .string data] ∧ w.heap.size < wr.heap.size ∧ Below w.heap.size w wr) (fun i _ => 2352 - (intOf i).toNat)
    case atStart => exact ⟨0, by omega, rfl, hr4, hs4, b4⟩
    case round =>
      obtain ⟨k, hk, rfl, hr, hs, hb⟩ := hrel
      clear hr4 q4 b4 hs4
      have q := hr.cell
      by_cases hlt : k < 2352
      · have hka : k < A.size := by omega
        have hkb : k < B.size := by omega
        have hltI : (k : Int) < 2352 := by omega
        have hk0 : (0 : Int) ≤ (k : Int) := by omega
        have hkA : (k : Int) < (A.size : Int) := by omega
        have hkB : (k : Int) < (B.size : Int) := by omega
        have hcmp := HC.out k hka hkb
        obtain ⟨a, e1⟩ : ∃ v, A[k] = v := ⟨_, rfl⟩
        obtain ⟨b, e2⟩ : ∃ v, B[k] = v := ⟨_, rfl⟩
        rw [e1, e2] at hcmp
        by_cases hm : mode = 0
        · subst hm
          rcases (by omega : k < 12 ∨ (12 ≤ k ∧ k < 15) ∨ (15 ≤ k ∧ k < 2064) ∨ (2064 ≤ k ∧ k < 2068) ∨ 2068 ≤ k) with h | h | h | h | h
          · have i0 : (k : Int) < 12 := by omega
            have i1 : (k : Int) < 2064 := by omega
            obtain rfl := hcmp (by omega)
            clear h HC hcmp
            go_upto_region 15 with fail
            go_quiet (fail)
            go_wp2_with fail
            go_roundw
            case rel => first | exact ⟨k + 1, by omega, by go_num, hr, hs, below_drewN hb _⟩ | exact ⟨k + 1, by omega, by go_num, hr, below_drewN hb _⟩ | exact ⟨_, _, _, _, _, ⟨k + 1, by omega, by simp, hr, below_drewN hb _⟩, rfl, rfl, rfl, rfl, rfl⟩
            case measure => simp [intOf]; omega
          · have i0 : (12 : Int) ≤ k := by omega
            have i1 : (k : Int) < 15 := by omega
            have i2 : (k : Int) < 2064 := by omega
            clear hcmp
            by_cases hab : a = b
            · subst hab
              clear h HC
              go_upto_region 15 with fail
              go_quiet (fail)
              go_wp2_with fail
              go_roundw
              case rel => first | exact ⟨k + 1, by omega, by go_num, hr, hs, below_drewN hb _⟩ | exact ⟨k + 1, by omega, by go_num, hr, below_drewN hb _⟩ | exact ⟨_, _, _, _, _, ⟨k + 1, by omega, by simp, hr, below_drewN hb _⟩, rfl, rfl, rfl, rfl, rfl⟩
              case measure => simp [intOf]; omega
            · have hne : ((a.toNat : Int) != (b.toNat : Int)) = true := by
                rw [bne_iff_ne]
                intro h
                exact hab (UInt8.toNat_inj.1 (Int.ofNat_inj.1 h))
              clear h HC hab
              go_upto_region 15 with fail
              go_quiet (fail)
              go_wp2_with fail
              go_roundw
              case rel => first | exact ⟨k + 1, by omega, by go_num, hr, hs, below_drewN hb _⟩ | exact ⟨k + 1, by omega, by go_num, hr, below_drewN hb _⟩ | exact ⟨_, _, _, _, _, ⟨k + 1, by omega, by simp, hr, below_drewN hb _⟩, rfl, rfl, rfl, rfl, rfl⟩
              case measure => simp [intOf]; omega
          · have i0 : (12 : Int) ≤ k := by omega
            have i1 : ¬ (k : Int) < 15 := by omega
            have i2 : (k : Int) < 2064 := by omega
            obtain rfl := hcmp (by omega)
            clear h HC hcmp
            go_upto_region 15 with fail
            go_quiet (fail)
            go_wp2_with fail
            go_roundw
            case rel => first | exact ⟨k + 1, by omega, by go_num, hr, hs, below_drewN hb _⟩ | exact ⟨k + 1, by omega, by go_num, hr, below_drewN hb _⟩ | exact ⟨_, _, _, _, _, ⟨k + 1, by omega, by simp, hr, below_drewN hb _⟩, rfl, rfl, rfl, rfl, rfl⟩
            case measure => simp [intOf]; omega
          · have i0 : (12 : Int) ≤ k := by omega
            have i1 : ¬ (k : Int) < 15 := by omega
            have i2 : (2064 : Int) ≤ k := by omega
            have i3 : (k : Int) < 2068 := by omega
            clear hcmp
            by_cases hab : a = b
            · subst hab
              clear h HC
              go_upto_region 15 with fail
              go_quiet (fail)
              go_wp2_with fail
              go_roundw
              case rel => first | exact ⟨k + 1, by omega, by go_num, hr, hs, below_drewN hb _⟩ | exact ⟨k + 1, by omega, by go_num, hr, below_drewN hb _⟩ | exact ⟨_, _, _, _, _, ⟨k + 1, by omega, by simp, hr, below_drewN hb _⟩, rfl, rfl, rfl, rfl, rfl⟩
              case measure => simp [intOf]; omega
            · have hne : ((a.toNat : Int) != (b.toNat : Int)) = true := by
                rw [bne_iff_ne]
                intro h
                exact hab (UInt8.toNat_inj.1 (Int.ofNat_inj.1 h))
              clear h HC hab
              go_upto_region 15 with fail
              go_quiet (fail)
              go_wp2_with fail
              go_roundw
              case rel => first | exact ⟨k + 1, by omega, by go_num, hr, hs, below_drewN hb _⟩ | exact ⟨k + 1, by omega, by go_num, hr, below_drewN hb _⟩ | exact ⟨_, _, _, _, _, ⟨k + 1, by omega, by simp, hr, below_drewN hb _⟩, rfl, rfl, rfl, rfl, rfl⟩
              case measure => simp [intOf]; omega
          · have i0 : (12 : Int) ≤ k := by omega
            have i1 : ¬ (k : Int) < 15 := by omega
            have i2 : (2064 : Int) ≤ k := by omega
            have i3 : ¬ (k : Int) < 2068 := by omega
            obtain rfl := hcmp (by omega)
            clear h HC hcmp
            go_upto_region 15 with fail
            go_quiet (fail)
            go_wp2_with fail
            go_roundw
            case rel => first | exact ⟨k + 1, by omega, by go_num, hr, hs, below_drewN hb _⟩ | exact ⟨k + 1, by omega, by go_num, hr, below_drewN hb _⟩ | exact ⟨_, _, _, _, _, ⟨k + 1, by omega, by simp, hr, below_drewN hb _⟩, rfl, rfl, rfl, rfl, rfl⟩
            case measure => simp [intOf]; omega
        · have hmB : (mode == 0) = false := by rw [beq_eq_false_iff_ne]; exact hm
          rcases (by omega : k < 12 ∨ (12 ≤ k ∧ k < 15) ∨ (15 ≤ k ∧ k < 2064) ∨ (2064 ≤ k ∧ k < 2068) ∨ 2068 ≤ k) with h | h | h | h | h
          · have i0 : (k : Int) < 12 := by omega
            have i1 : (k : Int) < 2064 := by omega
            obtain rfl := hcmp (by omega)
            clear h HC hcmp
            go_upto_region 15 with fail
            go_quiet (fail)
            go_wp2_with fail
            go_roundw
            case rel => first | exact ⟨k + 1, by omega, by go_num, hr, hs, below_drewN hb _⟩ | exact ⟨k + 1, by omega, by go_num, hr, below_drewN hb _⟩ | exact ⟨_, _, _, _, _, ⟨k + 1, by omega, by simp, hr, below_drewN hb _⟩, rfl, rfl, rfl, rfl, rfl⟩
            case measure => simp [intOf]; omega
          · have i0 : (12 : Int) ≤ k := by omega
            have i1 : (k : Int) < 15 := by omega
            have i2 : (k : Int) < 2064 := by omega
            clear hcmp
            by_cases hab : a = b
            · subst hab
              clear h HC
              go_upto_region 15 with fail
              go_quiet (fail)
              go_wp2_with fail
              go_roundw
              case rel => first | exact ⟨k + 1, by omega, by go_num, hr, hs, below_drewN hb _⟩ | exact ⟨k + 1, by omega, by go_num, hr, below_drewN hb _⟩ | exact ⟨_, _, _, _, _, ⟨k + 1, by omega, by simp, hr, below_drewN hb _⟩, rfl, rfl, rfl, rfl, rfl⟩
              case measure => simp [intOf]; omega
            · have hne : ((a.toNat : Int) != (b.toNat : Int)) = true := by
                rw [bne_iff_ne]
                intro h
                exact hab (UInt8.toNat_inj.1 (Int.ofNat_inj.1 h))
              clear h HC hab
              go_upto_region 15 with fail
              go_quiet (fail)
              go_wp2_with fail
              go_roundw
              case rel => first | exact ⟨k + 1, by omega, by go_num, hr, hs, below_drewN hb _⟩ | exact ⟨k + 1, by omega, by go_num, hr, below_drewN hb _⟩ | exact ⟨_, _, _, _, _, ⟨k + 1, by omega, by simp, hr, below_drewN hb _⟩, rfl, rfl, rfl, rfl, rfl⟩
              case measure => simp [intOf]; omega
          · have i0 : (12 : Int) ≤ k := by omega
            have i1 : ¬ (k : Int) < 15 := by omega
            have i2 : (k : Int) < 2064 := by omega
            obtain rfl := hcmp (by omega)
            clear h HC hcmp
            go_upto_region 15 with fail
            go_quiet (fail)
            go_wp2_with fail
            go_roundw
            case rel => first | exact ⟨k + 1, by omega, by go_num, hr, hs, below_drewN hb _⟩ | exact ⟨k + 1, by omega, by go_num, hr, below_drewN hb _⟩ | exact ⟨_, _, _, _, _, ⟨k + 1, by omega, by simp, hr, below_drewN hb _⟩, rfl, rfl, rfl, rfl, rfl⟩
            case measure => simp [intOf]; omega
          · have i0 : (12 : Int) ≤ k := by omega
            have i1 : ¬ (k : Int) < 15 := by omega
            have i2 : (2064 : Int) ≤ k := by omega
            have i3 : (k : Int) < 2068 := by omega
            obtain rfl := hcmp (by omega)
            clear h HC hcmp
            go_upto_region 15 with fail
            go_quiet (fail)
            go_wp2_with fail
            go_roundw
            case rel => first | exact ⟨k + 1, by omega, by go_num, hr, hs, below_drewN hb _⟩ | exact ⟨k + 1, by omega, by go_num, hr, below_drewN hb _⟩ | exact ⟨_, _, _, _, _, ⟨k + 1, by omega, by simp, hr, below_drewN hb _⟩, rfl, rfl, rfl, rfl, rfl⟩
            case measure => simp [intOf]; omega
          · have i0 : (12 : Int) ≤ k := by omega
            have i1 : ¬ (k : Int) < 15 := by omega
            have i2 : (2064 : Int) ≤ k := by omega
            have i3 : ¬ (k : Int) < 2068 := by omega
            obtain rfl := hcmp (by omega)
            clear h HC hcmp
            go_upto_region 15 with fail
            go_quiet (fail)
            go_wp2_with fail
            go_roundw
            case rel => first | exact ⟨k + 1, by omega, by go_num, hr, hs, below_drewN hb _⟩ | exact ⟨k + 1, by omega, by go_num, hr, below_drewN hb _⟩ | exact ⟨_, _, _, _, _, ⟨k + 1, by omega, by simp, hr, below_drewN hb _⟩, rfl, rfl, rfl, rfl, rfl⟩
            case measure => simp [intOf]; omega
      · obtain rfl : k = 2352 := by omega
        go_upto_region 18 with fail
        go_quiet (fail)
        go_wp2_with fail
        go_ret
        exact ⟨by rw [HP.out]; rfl, by first | exact hb | exact hb.drew | exact below_drewN hb _⟩
  · have hne : (ea != 0 || eb != 0) = true := by
      rw [Bool.or_eq_true, bne_iff_ne, bne_iff_ne]
      omega
    have hh : (ea = 0 ∧ (eb != 0) = true) ∨ (ea != 0) = true := by
      by_cases h : ea = 0
      · exact .inl ⟨h, by rw [bne_iff_ne]; omega⟩
      · exact .inr (by rw [bne_iff_ne]; exact h)
    clear hne hv hA hB
    obtain ⟨lba, mode, fi, ch, su, co, data⟩ := x
    rw [reLba] at C2
    rw [secV] at *
    dsimp only at *
    go_enter Try.func4, Try.ntmps4
    go_wp2_with fail
    refine (C0.out _).mono ?_
    rintro r w1 ⟨rfl, hb1⟩
    have hs1 : w.heap.size < w1.heap.size := by have := hb1.size; simp at this; omega
    have hr1 : RowAt w1 w.heap.size 25 _ := (RowAt.new w _ _).below hb1 (by simp)
    have q1 := hr1.cell
    have b1 : Below w.heap.size w w1 := ((Below.refl _ _).alloc (Nat.le_refl _) _).trans (hb1.mono (by simp))
    go_wp2_with fail
    have hr2 := hr1.alloc (.cells #[.int .i64 n, .int .i64 mode, .int .i64 fi, .int .i64 ch, .int .i64 su, .int .i64 co, .string data] 25)
    have hy2 := RowAt.new w1 25 #[.int .i64 n, .int .i64 mode, .int .i64 fi, .int .i64 ch, .int .i64 su, .int .i64 co, .string data]
    have b2 := b1.alloc b1.size (.cells #[.int .i64 n, .int .i64 mode, .int .i64 fi, .int .i64 ch, .int .i64 su, .int .i64 co, .string data] 25)
    have hg2 : w1.heap.size < (w1.alloc (.cells #[.int .i64 n, .int .i64 mode, .int .i64 fi, .int .i64 ch, .int .i64 su, .int .i64 co, .string data] 25)).heap.size := hy2.lt
    refine (C1.out _).mono ?_
    rintro r w3 ⟨rfl, hb3⟩
    have hs3 : w.heap.size < w3.heap.size := by have := hb3.size; omega
    have hg3 : w1.heap.size < w3.heap.size := by have := hb3.size; omega
    have hr3 := hr2.below hb3 (by omega)
    have hy3 := hy2.below hb3 (by omega)
    have b3 : Below w.heap.size w w3 := b2.trans (hb3.mono b2.size)
    have q3 := hr3.cell
    have y0 : w3.cell? ⟨w1.heap.size, 0, none⟩ = some (.int .i64 n) := hy3.cell 0
    have y1 : w3.cell? ⟨w1.heap.size, 1, none⟩ = some (.int .i64 mode) := hy3.cell 1
    have y2 : w3.cell? ⟨w1.heap.size, 2, none⟩ = some (.int .i64 fi) := hy3.cell 2
    have y3 : w3.cell? ⟨w1.heap.size, 3, none⟩ = some (.int .i64 ch) := hy3.cell 3
    have y4 : w3.cell? ⟨w1.heap.size, 4, none⟩ = some (.int .i64 su) := hy3.cell 4
    have y5 : w3.cell? ⟨w1.heap.size, 5, none⟩ = some (.int .i64 co) := hy3.cell 5
    have y6 : w3.cell? ⟨w1.heap.size, 6, none⟩ = some (.string data) := hy3.cell 6
    clear q1 hr2 hy2 b2 hb3 hr1 b1 hb1
    go_wp2_with fail
    refine (C2.out _).mono ?_
    rintro r w4 ⟨rfl, hb4⟩
    have hs4 : w.heap.size < w4.heap.size := by have := hb4.size; omega
    have hr4 := hr3.below hb4 hs3
    have q4 := hr4.cell
    have b4 : Below w.heap.size w w4 := b3.trans (hb4.mono b3.size)
    clear q3 hr3 hy3 y0 y1 y2 y3 y4 y5 y6 hb4 b3
    rcases hh with ⟨rfl, h2⟩ | h1
    · go_wp2_with fail
      go_ret
      exact ⟨rfl, b4⟩
    · go_wp2_with fail
      go_ret
      exact ⟨rfl, b4⟩
end Go.Proofs.Ytdjpnabkmanboaa
