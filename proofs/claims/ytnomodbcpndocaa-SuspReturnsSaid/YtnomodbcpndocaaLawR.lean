/-
  The walk of the law SuspReturns.
-/
import Derived.Test.YtnomodbcpndocaaLawA
import Derived.Test.YtnomodbcpndocaaSuX
import Derived.Test.YtnomodbcpndocaaSt
namespace Go.Proofs.Ytnomodbcpndocaa
open Go.RowKit
set_option linter.unusedVariables false

def isST (x : Ent) : Bool := decide (x.sg = stS)
theorem cst_any (x : Ent) (w : World) : Calls Try.prog 42 #[.agg #[.string x.sg, .int .i64 x.v, .string x.d]] w fun e w' => e = .returned (.bool (isST x)) ∧ Below w.heap.size w w' := by
  obtain ⟨sg, v, d⟩ := x
  unfold isST
  dsimp only
  by_cases h : sg = stS
  · subst h
    rw [decide_eq_true rfl]
    unfold stS
    go_enter Try.func42, Try.ntmps42
    go_wp2_with fail
    go_ret
    exact ⟨rfl, (Below.refl _ _).alloc (Nat.le_refl _) _⟩
  · rw [decide_eq_false h]
    unfold stS at h
    have f2b : (sg.toList == [83, 84]) = false := by
      cases hq : (sg.toList == [83, 84]) with
      | false => rfl
      | true =>
        have e := eq_of_beq hq
        rw [ByteArray.toList_eq] at e
        exact absurd (mk_ext e) h
    go_enter Try.func42, Try.ntmps42
    go_wp2_with fail
    go_ret
    exact ⟨rfl, (Below.refl _ _).alloc (Nat.le_refl _) _⟩
theorem st_snoc {p : Ent → Bool} {l : List Ent} {k : Nat} {x : Ent} (h : l[k]? = some x) : (l.take (k + 1)).any p = ((l.take k).any p || p x) := by
  rw [List.take_add_one, h, Option.toList_some, List.any_append]
  simp
theorem st_yes {p : Ent → Bool} {l : List Ent} {k : Nat} {x : Ent} (h : l[k]? = some x) (hp : p x = true) : l.any p = true := List.any_eq_true.2 ⟨x, List.mem_of_getElem? h, hp⟩
set_option maxHeartbeats 1000000 in
theorem stindex_any (A : Option Addr) (c : Nat) (l : List Ent) (w : World) (h : EnAt w w.heap.size A l) (hm : l.length ≤ 1000000) :
    Calls Try.prog 61 #[.slice A l.length c, .func (.func 42) #[] #[]] w fun e w' => (∃ i : Int, e = .returned (.int .i64 i) ∧ decide (0 ≤ i) = l.any isST) ∧ Below w.heap.size w w' := by
  have HW := Lib.hid h
  obtain ⟨n, hn⟩ : ∃ n, l.length = n := ⟨_, rfl⟩
  have HN := Lib.hid hn
  rw [hn] at hm ⊢
  clear h hn
  go_enter Try.func61, Try.ntmps61
  go_wp2_with fail
  go_loopw [8] (fun i wr => ∃ k : Nat, k ≤ n ∧ i = .int .i64 k ∧ Hid ((l.take k).any isST = false) ∧ Below w.heap.size w wr) (fun i _ => n - (intOf i).toNat)
  case atStart => exact ⟨0, by omega, rfl, Lib.hid (by simp), Below.refl _ _⟩
  case round =>
    obtain ⟨k, hk, rfl, HS, hbel⟩ := hrel
    by_cases hlt : k < n
    · obtain ⟨x, hx⟩ : ∃ x, l[k]? = some x := ⟨l[k]'(by rw [HN.out]; exact hlt), List.getElem?_eq_getElem _⟩
      obtain ⟨b, off, hA, hbk⟩ := HW.out.one (by rw [HN.out]; omega)
      subst hA
      obtain ⟨p0, p1, p2⟩ := (HW.out.below hbel).cells rfl hx
      have hltI : (k : Int) < (n : Int) := by omega
      have h0k : (0 : Int) ≤ (k : Int) := by omega
      have HS1 := Lib.hid (st_snoc (p := isST) hx)
      have HYES := Lib.hid (fun hp => st_yes (p := isST) hx hp)
      have C := Lib.hid (fun w => cst_any x w)
      generalize isST x = q at C HS1 HYES
      clear hx
      cases q with
      | true =>
        go_wp2_with fail
        refine (C.out _).mono ?_
        rintro e w1 ⟨rfl, hb1⟩
        go_wp2_with fail
        go_ret
        exact ⟨⟨(k : Int), rfl, by rw [HYES.out (by first | rfl | trivial)]; exact decide_eq_true (by omega)⟩, hbel.trans (hb1.mono hbel.size)⟩
      | false =>
        go_wp2_with fail
        refine (C.out _).mono ?_
        rintro e w1 ⟨rfl, hb1⟩
        go_wp2_with fail
        go_roundw
        case rel => exact ⟨k + 1, by omega, by go_num, Lib.hid (by rw [HS1.out, HS.out]; rfl), hbel.trans (hb1.mono hbel.size)⟩
        case measure => simp [intOf]; omega
    · obtain rfl : k = n := by omega
      have hge : ¬ (k : Int) < (k : Int) := by omega
      have HS1 : Hid (l.any isST = false) := Lib.hid (by have := HS.out; rwa [List.take_of_length_le (by rw [HN.out]; omega)] at this)
      go_wp2_with fail
      go_ret
      exact ⟨⟨-1, rfl, by rw [HS1.out]; rfl⟩, hbel⟩
theorem stcontains_any (A : Option Addr) (c : Nat) (l : List Ent) (w : World) (h : EnAt w w.heap.size A l) (hm : l.length ≤ 1000000) :
    Calls Try.prog 41 #[.slice A l.length c, .func (.func 42) #[] #[]] w fun e w' => e = .returned (.bool (l.any isST)) ∧ Below w.heap.size w w' := by
  have C := Lib.hid (stindex_any A c l w h hm)
  generalize l.length = n at *
  generalize l.any isST = q at *
  clear h
  go_enter Try.func41, Try.ntmps41
  go_wp2_with fail
  refine C.out.mono ?_
  rintro e w' ⟨⟨i, rfl, hi⟩, hb⟩
  have HI := Lib.hid hi
  clear hi
  go_wp2_with fail
  go_ret
  exact ⟨ret_bool (by rw [← HI.out]), hb⟩
/-- The four tails. -/
def tailS (b : ByteArray) : Nat → ByteArray
  | 0 => ⟨#[]⟩
  | 1 => b.extract 0 (min b.size 3)
  | 2 => ⟨#[0]⟩ ++ b
  | _ => ⟨#[83, 84, 4, 1]⟩ ++ b
theorem tail_stop (b : ByteArray) (k : Nat) : stopB ⟨(tailS b k).data.toList.toArray⟩ := by
  match k with
  | 0 => exact stop_short (show 0 < 4 by omega)
  | 1 =>
    refine stop_short ?_
    show (b.extract 0 (min b.size 3)).data.toList.length < 4
    rw [ext_data, List.length_take]
    omega
  | 2 => 
    show stopB ⟨((⟨#[0]⟩ ++ b : ByteArray).data.toList).toArray⟩
    rw [ByteArray.data_append, Array.toList_append]
    exact stop_zero
  | n + 3 =>
    show stopB ⟨((⟨#[83, 84, 4, 1]⟩ ++ b : ByteArray).data.toList).toArray⟩
    rw [ByteArray.data_append, Array.toList_append]
    exact stop_st
theorem tail_dec {l : List Ent} (h : checkL l = 0) (hs : l.any isST = false) (b : ByteArray) (k : Nat) : decE (encS l ++ tailS b k) = 0 ∧ decL (encS l ++ tailS b k) = l :=
  dec_full (R := (tailS b k).data.toList) (by rw [ByteArray.data_append, Array.toList_append, encS_ok h]) (check_ok h).2
    (fun x hx e => by
      have := List.any_eq_false.1 hs x hx
      unfold isST at this
      rw [decide_eq_true e] at this
      exact this rfl) (tail_stop b k)
theorem tail_size (b : ByteArray) (k : Nat) (hb : b.size ≤ 300) : (tailS b k).size ≤ 304 := by
  match k with
  | 0 => exact Nat.zero_le _
  | 1 => show (b.extract 0 (min b.size 3)).size ≤ 304; rw [ByteArray.size_extract]; omega
  | 2 => show (⟨#[0]⟩ ++ b : ByteArray).size ≤ 304; rw [ByteArray.size_append]; show 1 + _ ≤ _; omega
  | n + 3 => show (⟨#[83, 84, 4, 1]⟩ ++ b : ByteArray).size ≤ 304; rw [ByteArray.size_append]; show 4 + _ ≤ _; omega
theorem encS_szL {l : List Ent} (h : checkL l = 0) : (encS l).size = sizeL l := by
  rw [size_data, encS_ok h, encB_length (check_ok h).2]
theorem encS_no {l : List Ent} (h : checkL l ≠ 0) : encS l = ⟨#[]⟩ := by unfold encS; rw [if_neg h]
set_option maxRecDepth 100000 in
set_option maxHeartbeats 4000000 in
theorem returns_law (A : Option Addr) (len cap : Nat) (l : List Ent) (s : ByteArray) (w : World) (h : IsL encE EntG w A len cap l) (hs : s.size ≤ maxLen) :
    Calls Try.prog 8 #[.slice A len cap, .string s] w fun e w' => e = .returned (.bool true) ∧ Below w.heap.size w w' := by
  obtain ⟨h1, h2, h3, h4, h5⟩ := h
  subst h1
  unfold maxLen at h3 hs
  have HE : Hid (EnAt w w.heap.size A l) := Lib.hid h4
  have HG := Lib.hid h5
  have HS := Lib.hid (fun w' (hb : Below w.heap.size w w') => small_any A cap l 40 w' ((h4.below hb).mono hb.size) (by omega))
  clear h4 h5
  cases hsm : smallB l 40 with
  | false =>
    rw [hsm] at HS
    clear hsm
    go_enter Try.func8, Try.ntmps8
    go_wp2_with fail
    refine (awake_any _).mono ?_
    rintro e w0 ⟨rfl, hb0⟩
    have C := Lib.hid (HS.out w0 hb0)
    have HB := Lib.hid hb0
    clear hb0 HS
    go_wp2_with fail
    refine C.out.mono ?_
    rintro e _ ⟨rfl, rfl⟩
    go_wp2_with fail
    go_ret
    exact ⟨rfl, HB.out⟩
  | true =>
    rw [hsm] at HS
    obtain ⟨hl, hx⟩ := smallB_len hsm
    have hl40 : l.length ≤ 40 := by omega
    by_cases hs3 : 300 < s.size
    · have hsI : (300 : Int) < (s.size : Int) := by omega
      clear hsm hl hl40 hx hs3
      go_enter Try.func8, Try.ntmps8
      go_wp2_with fail
      refine (awake_any _).mono ?_
      rintro e w0 ⟨rfl, hb0⟩
      have C := Lib.hid (HS.out w0 hb0)
      have HB := Lib.hid hb0
      clear hb0 HS
      go_wp2_with fail
      refine C.out.mono ?_
      rintro e _ ⟨rfl, rfl⟩
      go_wp2_with fail
      go_ret
      exact ⟨rfl, HB.out⟩
    · have hsI : ¬ (300 : Int) < (s.size : Int) := by omega
      have hsz : s.size ≤ 300 := by omega
      have CF := Lib.hid (fun w' (hb : Below w.heap.size w w') => stcontains_any A cap l w' ((HE.out.below hb).mono hb.size) (by omega))
      have CE := Lib.hid (fun w' (hb : Below w.heap.size w w') => encode_any A cap l w' ((HE.out.below hb).mono hb.size) (fun _ x hx' => by have := hx x hx'; omega))
      have CZ := Lib.hid (fun w' (hb : Below w.heap.size w w') => size_any A cap l w' ((HE.out.below hb).mono hb.size) (by omega) (fun x hx => (HG.out x hx).d))
      have CM := Lib.hid (fun A' c' w' (hb : Below w.heap.size w w') h' => ents_same A' A c' cap l w' h' ((HE.out.below hb).mono hb.size) (by omega))
      cases hst : l.any isST with
      | true =>
        rw [hst] at CF
        clear hsm hl hl40 hx hs3 hst CE CZ CM hsz
        generalize l.length = n at *
        go_enter Try.func8, Try.ntmps8
        go_wp2_with fail
        refine (awake_any _).mono ?_
        rintro e w0 ⟨rfl, hb0⟩
        have C := Lib.hid (HS.out w0 hb0)
        have C1 := Lib.hid (CF.out w0 hb0)
        have HB := Lib.hid hb0
        clear hb0 HS CF
        go_wp2_with fail
        refine C.out.mono ?_
        rintro e _ ⟨rfl, rfl⟩
        go_wp2_with fail
        refine C1.out.mono ?_
        rintro e w1 ⟨rfl, hb1⟩
        have HB1 := Lib.hid (HB.out.trans (hb1.mono HB.out.size))
        clear hb1 HB
        go_wp2_with fail
        go_ret
        exact ⟨rfl, HB1.out⟩
      | false =>
        rw [hst] at CF
        by_cases hck : checkL l = 0
        · have HT := Lib.hid (fun k => tail_dec hck hst s k)
          have HTS := Lib.hid (fun k => tail_size s k hsz)
          have hes := encS_szL hck
          have hel := sizeL_le (check_ok hck).2
          have CD := Lib.hid (fun k w' => decode_any (encS l ++ tailS s k) w' (by rw [ByteArray.size_append]; have := HTS.out k; omega))
          have hwz : wrap64 ((sizeL l : Nat) : Int) = ((sizeL l : Nat) : Int) := by unfold wrap64; omega
          rw [hwz, ← hes] at CZ
          rw [hck] at CE
          unfold DecRes at CD
          have CD2 : Hid (∀ k w, Calls Try.prog 13 #[.string (encS l ++ tailS s k)] w fun e w' => Below w.heap.size w w' ∧ ∃ A c, e = .returned (.tuple #[.slice A l.length c, .int .i64 0]) ∧ EnAt w' w'.heap.size A l) := Lib.hid (fun k w => (CD.out k w).mono (by
            rintro e w' ⟨hb, A, c, rfl, ho⟩
            obtain ⟨e1, e2⟩ := HT.out k
            rw [e2] at ho
            exact ⟨hb, A, c, by rw [e1, e2], SlAt.of_own' ho (Nat.le_refl _)⟩))
          have hS6 : (encS l).size ≤ 20000 := by omega
          have hcat : ∀ k, (encS l).size + (tailS s k).size ≤ 140737488351232 := fun k => by have := HTS.out k; omega
          clear CD HT hwz hes hel hck hst hsm hx hs3
          generalize l.length = n at *
          generalize encS l = S at *
          go_enter Try.func8, Try.ntmps8
          go_wp2_with fail
          refine (awake_any _).mono ?_
          rintro e w0 ⟨rfl, hb0⟩
          have C := Lib.hid (HS.out w0 hb0)
          have C1 := Lib.hid (CF.out w0 hb0)
          have HB := Lib.hid hb0
          clear hb0 HS CF
          go_wp2_with fail
          refine C.out.mono ?_
          rintro e _ ⟨rfl, rfl⟩
          go_wp2_with fail
          refine C1.out.mono ?_
          rintro e w1 ⟨rfl, hb1⟩
          have HB1 := Lib.hid (HB.out.trans (hb1.mono HB.out.size))
          have C2 := Lib.hid (CE.out w1 HB1.out)
          clear hb1 HB C C1 CE
          go_wp2_with fail
          refine C2.out.mono ?_
          rintro e w2 ⟨rfl, hb2⟩
          have HB2 := Lib.hid (HB1.out.trans (hb2.mono HB1.out.size))
          clear hb2 HB1 C2
          have e1 : s.extract 0 (min (s.size : Int) 3).toNat = tailS s 1 := by
            show _ = s.extract 0 (min s.size 3)
            congr 1
            omega
          have e2 : (⟨#[0]⟩ ++ s : ByteArray) = tailS s 2 := rfl
          have e3 : (⟨#[83, 84, 4, 1]⟩ ++ s : ByteArray) = tailS s 3 := rfl
          have e0 : (⟨#[]⟩ : ByteArray) = tailS s 0 := rfl
          have HE1 := Lib.hid e1
          have HE2 := Lib.hid e2
          have HE3 := Lib.hid e3
          have HE0 := Lib.hid e0
          clear e0 e1 e2 e3
          go_wp2_with fail
          rw [HE1.out, HE2.out, HE3.out, HE0.out]
          have C0 := Lib.hid (CD2.out 0)
          have C1 := Lib.hid (CD2.out 1)
          have C2 := Lib.hid (CD2.out 2)
          have C3 := Lib.hid (CD2.out 3)
          have k0 := hcat 0
          have k1 := hcat 1
          have k2 := hcat 2
          have k3 := hcat 3
          clear CD2 hcat HE0 HE1 HE2 HE3 HTS
          generalize tailS s 0 = t0 at *
          generalize tailS s 1 = t1 at *
          generalize tailS s 2 = t2 at *
          generalize tailS s 3 = t3 at *
          have HSt := Lib.hid ((St.start w2).new (g := w2.heap.size) rfl #[.string t0, .string t1, .string t2, .string t3] 9)
          obtain ⟨g, hg⟩ : ∃ g, w2.heap.size = g := ⟨_, rfl⟩
          rw [hg] at HSt ⊢
          clear hg
          go_loopw [45] (fun i wr => ∃ k : Nat, k ≤ 4 ∧ i = .int .i64 k ∧ St w2 wr [(g, 9, #[.string t0, .string t1, .string t2, .string t3])]) (fun i _ => 4 - (intOf i).toNat)
          case atStart => exact ⟨0, by omega, rfl, HSt.out⟩
          case round =>
            obtain ⟨k, hk, rfl, hst⟩ := hrel
            have q := (hst.at (i := 0) rfl).cell
            have HST := Lib.hid hst
            clear hst HSt
            rcases (by omega : k = 0 ∨ k = 1 ∨ k = 2 ∨ k = 3 ∨ k = 4) with rfl | rfl | rfl | rfl | rfl
            · go_wp2_with fail
              refine (C0.out _).mono ?_
              rintro e w5 ⟨hb5, A5, c5, rfl, ho5⟩
              have H5 := Lib.hid (St.call hb5 HST.out)
              have C6 := Lib.hid (CM.out A5 c5 w5 (HB2.out.trans (H5.out.bel.mono HB2.out.size)) ho5)
              clear hb5 ho5 q
              go_wp2_with fail
              refine C6.out.mono ?_
              rintro e w6 ⟨rfl, hb6⟩
              have H6 := Lib.hid (St.call hb6 H5.out)
              clear hb6 H5 C6
              go_wp2_with fail
              go_roundw
              case rel => exact ⟨1, by omega, by go_num, H6.out⟩
              case measure => simp [intOf]
            · go_wp2_with fail
              refine (C1.out _).mono ?_
              rintro e w5 ⟨hb5, A5, c5, rfl, ho5⟩
              have H5 := Lib.hid (St.call hb5 HST.out)
              have C6 := Lib.hid (CM.out A5 c5 w5 (HB2.out.trans (H5.out.bel.mono HB2.out.size)) ho5)
              clear hb5 ho5 q
              go_wp2_with fail
              refine C6.out.mono ?_
              rintro e w6 ⟨rfl, hb6⟩
              have H6 := Lib.hid (St.call hb6 H5.out)
              clear hb6 H5 C6
              go_wp2_with fail
              go_roundw
              case rel => exact ⟨2, by omega, by go_num, H6.out⟩
              case measure => simp [intOf]
            · go_wp2_with fail
              refine (C2.out _).mono ?_
              rintro e w5 ⟨hb5, A5, c5, rfl, ho5⟩
              have H5 := Lib.hid (St.call hb5 HST.out)
              have C6 := Lib.hid (CM.out A5 c5 w5 (HB2.out.trans (H5.out.bel.mono HB2.out.size)) ho5)
              clear hb5 ho5 q
              go_wp2_with fail
              refine C6.out.mono ?_
              rintro e w6 ⟨rfl, hb6⟩
              have H6 := Lib.hid (St.call hb6 H5.out)
              clear hb6 H5 C6
              go_wp2_with fail
              go_roundw
              case rel => exact ⟨3, by omega, by go_num, H6.out⟩
              case measure => simp [intOf]
            · go_wp2_with fail
              refine (C3.out _).mono ?_
              rintro e w5 ⟨hb5, A5, c5, rfl, ho5⟩
              have H5 := Lib.hid (St.call hb5 HST.out)
              have C6 := Lib.hid (CM.out A5 c5 w5 (HB2.out.trans (H5.out.bel.mono HB2.out.size)) ho5)
              clear hb5 ho5 q
              go_wp2_with fail
              refine C6.out.mono ?_
              rintro e w6 ⟨rfl, hb6⟩
              have H6 := Lib.hid (St.call hb6 H5.out)
              clear hb6 H5 C6
              go_wp2_with fail
              go_roundw
              case rel => exact ⟨4, by omega, by go_num, H6.out⟩
              case measure => simp [intOf]
            · have HB3 := Lib.hid (HB2.out.trans (HST.out.bel.mono HB2.out.size))
              have C5 := Lib.hid (CZ.out _ HB3.out)
              go_wp2_with fail
              refine C5.out.mono ?_
              rintro e w3 ⟨rfl, hb3⟩
              have HB4 := Lib.hid (HB3.out.trans (hb3.mono HB3.out.size))
              clear hb3
              go_wp2_with fail
              go_ret
              exact ⟨rfl, HB4.out⟩
        · have HN : Hid (encS l = ⟨#[]⟩) := Lib.hid (encS_no hck)
          rw [HN.out] at CE
          clear hsm hl hl40 hx hs3 hst CZ CM hsz
          generalize checkL l = K at *
          have hckI : ¬ K = 0 := hck
          generalize l.length = n at *
          go_enter Try.func8, Try.ntmps8
          go_wp2_with fail
          refine (awake_any _).mono ?_
          rintro e w0 ⟨rfl, hb0⟩
          have C := Lib.hid (HS.out w0 hb0)
          have C1 := Lib.hid (CF.out w0 hb0)
          have HB := Lib.hid hb0
          clear hb0 HS CF
          go_wp2_with fail
          refine C.out.mono ?_
          rintro e _ ⟨rfl, rfl⟩
          go_wp2_with fail
          refine C1.out.mono ?_
          rintro e w1 ⟨rfl, hb1⟩
          have HB1 := Lib.hid (HB.out.trans (hb1.mono HB.out.size))
          have C2 := Lib.hid (CE.out w1 HB1.out)
          clear hb1 HB C C1 CE
          go_wp2_with fail
          refine C2.out.mono ?_
          rintro e w2 ⟨rfl, hb2⟩
          have HB2 := Lib.hid (HB1.out.trans (hb2.mono HB1.out.size))
          clear hb2 HB1 C2
          go_wp2_with fail
          go_ret
          exact ⟨rfl, HB2.out⟩
end Go.Proofs.Ytnomodbcpndocaa
