/-
  Chapter 52: Valid, of both.
-/
import Derived.Test.YtdmdfpdigoijoaaPwA
namespace Go.Proofs.Ytdmdfpdigoijoaa
open Go.RowKit
set_option linter.unusedVariables false

set_option maxHeartbeats 1000000 in
theorem rvalidimg_any (A : Option Addr) (c : Nat) (img : Img) (w : World) (h : SlAt w w.heap.size A (strV img)) (hm : img.length ≤ 1000000) :
    Calls Try.prog 62 #[.slice A img.length c] w fun e w' => e = .returned (.bool (imgOk img)) ∧ w = w' := by
  have HW := Lib.hid h
  obtain ⟨n, hn⟩ : ∃ n, img.length = n := ⟨_, rfl⟩
  have HF : Hid (imgOk img = (decide (n ≤ 4096) && img.all elOk)) := Lib.hid (by unfold imgOk; rw [hn])
  have HN := Lib.hid hn
  rw [hn] at hm ⊢
  rw [HF.out]
  clear h hn HF
  go_enter Try.func62, Try.ntmps62
  go_wp2_with fail
  go_loop [3] (fun i => ∃ k : Nat, k ≤ n ∧ i = .int .i64 k ∧ Hid ((img.take k).all elOk = true)) (fun i => n - (intOf i).toNat)
  case atStart => exact ⟨0, by omega, rfl, Lib.hid (by simp)⟩
  case round =>
    obtain ⟨k, hk, rfl, HS⟩ := hrel
    by_cases hlt : k < n
    · obtain ⟨s, hs⟩ : ∃ s, img[k]? = some s := ⟨img[k]'(by rw [HN.out]; exact hlt), List.getElem?_eq_getElem _⟩
      obtain ⟨b, off, hA, hbk⟩ := HW.out.strAddr (by rw [HN.out]; omega)
      subst hA
      have p0 := HW.out.str rfl hs
      have hltI : (k : Int) < (n : Int) := by omega
      have h0k : (0 : Int) ≤ (k : Int) := by omega
      have HS1 := Lib.hid (all_snoc (p := elOk) hs)
      have HNO := Lib.hid (fun hp => all_no (p := elOk) hs hp)
      have HE : Hid (elOk s = (decide (s.toList = []) || (decide (s.toList = [33]) || decide (s.size = 2048)))) := rfl
      clear hs
      by_cases h1 : s.toList = []
      · have HOK : Hid (elOk s = true) := Lib.hid (by rw [HE.out, h1]; rfl)
        go_wp2_with fail
        go_round
        case rel => exact ⟨k + 1, by omega, by go_num, Lib.hid (by rw [HS1.out, HS.out, HOK.out]; rfl)⟩
        case measure => simp [intOf]; omega
      · by_cases h2 : s.toList = [33]
        · have HOK : Hid (elOk s = true) := Lib.hid (by rw [HE.out, h2]; rfl)
          go_wp2_with fail
          go_round
          case rel => exact ⟨k + 1, by omega, by go_num, Lib.hid (by rw [HS1.out, HS.out, HOK.out]; rfl)⟩
          case measure => simp [intOf]; omega
        · by_cases h3 : s.size = 2048
          · have HOK : Hid (elOk s = true) := Lib.hid (by rw [HE.out, decide_eq_true h3]; simp)
            have h3b : ((s.size : Int) != 2048) = false := by rw [bne_eq_false_iff_eq]; omega
            clear h3
            go_wp2_with fail
            go_round
            case rel => exact ⟨k + 1, by omega, by go_num, Lib.hid (by rw [HS1.out, HS.out, HOK.out]; rfl)⟩
            case measure => simp [intOf]; omega
          · have HOK : Hid (elOk s = false) := Lib.hid (by rw [HE.out, decide_eq_false h3, decide_eq_false h2, decide_eq_false h1]; rfl)
            have h3b : ((s.size : Int) != 2048) = true := by rw [bne_iff_ne]; omega
            have h1b : (!s.toList.isEmpty) = true := by simp [h1]
            have h2b : (!s.toList == [33]) = true := by simp [h2]
            clear h3
            go_wp2_with fail
            go_ret
            exact ⟨ret_bool (by rw [HNO.out HOK.out, Bool.and_false]), rfl⟩
    · obtain rfl : k = n := by omega
      have hge : ¬ (k : Int) < (k : Int) := by omega
      have HS1 : Hid (img.all elOk = true) := Lib.hid (by have := HS.out; rwa [List.take_of_length_le (by rw [HN.out]; omega)] at this)
      go_wp2_with fail
      go_ret
      exact ⟨ret_bool (by rw [HS1.out, Bool.and_true]; exact decide_eq_decide.2 (by omega)), rfl⟩

theorem vbad_any (s : ByteArray) (w : World) : Calls Try.prog 61 #[.string s] w fun e w' => e = .returned (.bool (!blkOk s)) ∧ w = w' := by
  have HF : Hid ((!blkOk s) = ((s.size : Int) != 2048)) := Lib.hid (by unfold blkOk; rw [Bool.eq_iff_iff]; simp; omega)
  go_enter Try.func61, Try.ntmps61
  go_wp2_with fail
  go_ret
  exact ⟨ret_bool (by rw [HF.out]), rfl⟩
set_option maxHeartbeats 1000000 in
theorem vindex_any (A : Option Addr) (c : Nat) (bl : List ByteArray) (w : World) (h : SlAt w w.heap.size A (strV bl)) (hm : bl.length ≤ 1000000) :
    Calls Try.prog 79 #[.slice A bl.length c, .func (.func 61) #[] #[]] w fun e w' => (∃ i : Int, e = .returned (.int .i64 i) ∧ decide (0 ≤ i) = !bl.all blkOk) ∧ w = w' := by
  have HW := Lib.hid h
  obtain ⟨n, hn⟩ : ∃ n, bl.length = n := ⟨_, rfl⟩
  have HN := Lib.hid hn
  rw [hn] at hm ⊢
  clear h hn
  go_enter Try.func79, Try.ntmps79
  go_wp2_with fail
  go_loop [8] (fun i => ∃ k : Nat, k ≤ n ∧ i = .int .i64 k ∧ Hid ((bl.take k).all blkOk = true)) (fun i => n - (intOf i).toNat)
  case atStart => exact ⟨0, by omega, rfl, Lib.hid (by simp)⟩
  case round =>
    obtain ⟨k, hk, rfl, HS⟩ := hrel
    by_cases hlt : k < n
    · obtain ⟨s, hs⟩ : ∃ s, bl[k]? = some s := ⟨bl[k]'(by rw [HN.out]; exact hlt), List.getElem?_eq_getElem _⟩
      obtain ⟨b, off, hA, hbk⟩ := HW.out.strAddr (by rw [HN.out]; omega)
      subst hA
      have p0 := HW.out.str rfl hs
      have hltI : (k : Int) < (n : Int) := by omega
      have h0k : (0 : Int) ≤ (k : Int) := by omega
      have HS1 := Lib.hid (all_snoc (p := blkOk) hs)
      have HNO := Lib.hid (fun hp => all_no (p := blkOk) hs hp)
      have C := Lib.hid (vbad_any s w)
      clear hs
      cases hb : blkOk s with
      | true =>
        have HB := Lib.hid hb
        rw [hb] at C
        clear hb
        go_wp2_with fail
        refine C.out.mono ?_
        rintro e w' ⟨rfl, rfl⟩
        go_wp2_with fail
        go_round
        case rel => exact ⟨k + 1, by omega, by go_num, Lib.hid (by rw [HS1.out, HS.out, HB.out]; rfl)⟩
        case measure => simp [intOf]; omega
      | false =>
        have HB := Lib.hid hb
        rw [hb] at C
        clear hb
        go_wp2_with fail
        refine C.out.mono ?_
        rintro e w' ⟨rfl, rfl⟩
        go_wp2_with fail
        go_ret
        exact ⟨⟨(k : Int), rfl, by rw [HNO.out HB.out]; exact decide_eq_true (by omega)⟩, rfl⟩
    · obtain rfl : k = n := by omega
      have hge : ¬ (k : Int) < (k : Int) := by omega
      have HS1 : Hid (bl.all blkOk = true) := Lib.hid (by have := HS.out; rwa [List.take_of_length_le (by rw [HN.out]; omega)] at this)
      go_wp2_with fail
      go_ret
      exact ⟨⟨-1, rfl, by rw [HS1.out]; rfl⟩, rfl⟩
theorem vcontains_any (A : Option Addr) (c : Nat) (bl : List ByteArray) (w : World) (h : SlAt w w.heap.size A (strV bl)) (hm : bl.length ≤ 1000000) :
    Calls Try.prog 60 #[.slice A bl.length c, .func (.func 61) #[] #[]] w fun e w' => e = .returned (.bool (!bl.all blkOk)) ∧ w = w' := by
  have C := Lib.hid (vindex_any A c bl w h hm)
  generalize bl.length = n at *
  clear h
  go_enter Try.func60, Try.ntmps60
  go_wp2_with fail
  refine C.out.mono ?_
  rintro e w' ⟨⟨i, rfl, hi⟩, rfl⟩
  have HI := Lib.hid hi
  clear hi
  go_wp2_with fail
  go_ret
  exact ⟨ret_bool (by rw [← HI.out]), rfl⟩

theorem abad_any (s : ByteArray) (w : World) : Calls Try.prog 64 #[.string s] w fun e w' => e = .returned (.bool (!blkOk s)) ∧ w = w' := by
  have HF : Hid ((!blkOk s) = ((s.size : Int) != 2048)) := Lib.hid (by unfold blkOk; rw [Bool.eq_iff_iff]; simp; omega)
  go_enter Try.func64, Try.ntmps64
  go_wp2_with fail
  go_ret
  exact ⟨ret_bool (by rw [HF.out]), rfl⟩
set_option maxHeartbeats 1000000 in
theorem aindex_any (A : Option Addr) (c : Nat) (bl : List ByteArray) (w : World) (h : SlAt w w.heap.size A (strV bl)) (hm : bl.length ≤ 1000000) :
    Calls Try.prog 79 #[.slice A bl.length c, .func (.func 64) #[] #[]] w fun e w' => (∃ i : Int, e = .returned (.int .i64 i) ∧ decide (0 ≤ i) = !bl.all blkOk) ∧ w = w' := by
  have HW := Lib.hid h
  obtain ⟨n, hn⟩ : ∃ n, bl.length = n := ⟨_, rfl⟩
  have HN := Lib.hid hn
  rw [hn] at hm ⊢
  clear h hn
  go_enter Try.func79, Try.ntmps79
  go_wp2_with fail
  go_loop [8] (fun i => ∃ k : Nat, k ≤ n ∧ i = .int .i64 k ∧ Hid ((bl.take k).all blkOk = true)) (fun i => n - (intOf i).toNat)
  case atStart => exact ⟨0, by omega, rfl, Lib.hid (by simp)⟩
  case round =>
    obtain ⟨k, hk, rfl, HS⟩ := hrel
    by_cases hlt : k < n
    · obtain ⟨s, hs⟩ : ∃ s, bl[k]? = some s := ⟨bl[k]'(by rw [HN.out]; exact hlt), List.getElem?_eq_getElem _⟩
      obtain ⟨b, off, hA, hbk⟩ := HW.out.strAddr (by rw [HN.out]; omega)
      subst hA
      have p0 := HW.out.str rfl hs
      have hltI : (k : Int) < (n : Int) := by omega
      have h0k : (0 : Int) ≤ (k : Int) := by omega
      have HS1 := Lib.hid (all_snoc (p := blkOk) hs)
      have HNO := Lib.hid (fun hp => all_no (p := blkOk) hs hp)
      have C := Lib.hid (abad_any s w)
      clear hs
      cases hb : blkOk s with
      | true =>
        have HB := Lib.hid hb
        rw [hb] at C
        clear hb
        go_wp2_with fail
        refine C.out.mono ?_
        rintro e w' ⟨rfl, rfl⟩
        go_wp2_with fail
        go_round
        case rel => exact ⟨k + 1, by omega, by go_num, Lib.hid (by rw [HS1.out, HS.out, HB.out]; rfl)⟩
        case measure => simp [intOf]; omega
      | false =>
        have HB := Lib.hid hb
        rw [hb] at C
        clear hb
        go_wp2_with fail
        refine C.out.mono ?_
        rintro e w' ⟨rfl, rfl⟩
        go_wp2_with fail
        go_ret
        exact ⟨⟨(k : Int), rfl, by rw [HNO.out HB.out]; exact decide_eq_true (by omega)⟩, rfl⟩
    · obtain rfl : k = n := by omega
      have hge : ¬ (k : Int) < (k : Int) := by omega
      have HS1 : Hid (bl.all blkOk = true) := Lib.hid (by have := HS.out; rwa [List.take_of_length_le (by rw [HN.out]; omega)] at this)
      go_wp2_with fail
      go_ret
      exact ⟨⟨-1, rfl, by rw [HS1.out]; rfl⟩, rfl⟩
theorem acontains_any (A : Option Addr) (c : Nat) (bl : List ByteArray) (w : World) (h : SlAt w w.heap.size A (strV bl)) (hm : bl.length ≤ 1000000) :
    Calls Try.prog 60 #[.slice A bl.length c, .func (.func 64) #[] #[]] w fun e w' => e = .returned (.bool (!bl.all blkOk)) ∧ w = w' := by
  have C := Lib.hid (aindex_any A c bl w h hm)
  generalize bl.length = n at *
  clear h
  go_enter Try.func60, Try.ntmps60
  go_wp2_with fail
  refine C.out.mono ?_
  rintro e w' ⟨⟨i, rfl, hi⟩, rfl⟩
  have HI := Lib.hid hi
  clear hi
  go_wp2_with fail
  go_ret
  exact ⟨ret_bool (by rw [← HI.out]), rfl⟩
end Go.Proofs.Ytdmdfpdigoijoaa
