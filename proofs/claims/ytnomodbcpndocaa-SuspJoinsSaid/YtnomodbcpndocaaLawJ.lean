/-
  The walk of the law SuspJoins.
-/
import Derived.Test.YtnomodbcpndocaaLawA
import Derived.Test.YtnomodbcpndocaaSuT
import Derived.Test.YtnomodbcpndocaaSuQ
import Derived.Test.YtnomodbcpndocaaSuO
import Derived.Test.YtnomodbcpndocaaSt
namespace Go.Proofs.Ytnomodbcpndocaa
open Go.RowKit
set_option linter.unusedVariables false

def bigJ (l : List Ent) : Bool := !smallB l 40
theorem cbig_any (A : Option Addr) (c : Nat) (l : List Ent) (w : World) (h : EnAt w w.heap.size A l) (hl : l.length ≤ 9223372036854775807) :
    Calls Try.prog 37 #[.slice A l.length c] w fun e w' => e = .returned (.bool (bigJ l)) ∧ w = w' := by
  have C := Lib.hid (small_any A c l 40 w h hl)
  unfold bigJ
  generalize smallB l 40 = q at *
  generalize l.length = n at *
  clear h
  go_enter Try.func37, Try.ntmps37
  go_wp2_with fail
  refine C.out.mono ?_
  rintro e _ ⟨rfl, rfl⟩
  go_wp2_with fail
  go_ret
  exact ⟨rfl, rfl⟩
theorem gr_snoc {p : List Ent → Bool} {l : List (List Ent)} {k : Nat} {x : List Ent} (h : l[k]? = some x) : (l.take (k + 1)).any p = ((l.take k).any p || p x) := by
  rw [List.take_add_one, h, Option.toList_some, List.any_append]
  simp
theorem gr_yes {p : List Ent → Bool} {l : List (List Ent)} {k : Nat} {x : List Ent} (h : l[k]? = some x) (hp : p x = true) : l.any p = true := List.any_eq_true.2 ⟨x, List.mem_of_getElem? h, hp⟩
set_option maxHeartbeats 1000000 in
theorem bigindex_any (A : Option Addr) (c : Nat) (hs : List Value) (ll : List (List Ent)) (w : World) (h : SlAt w w.heap.size A hs) (hG : GrAt w w.heap.size hs ll) (hm : ll.length ≤ 1000000) (hlen : ∀ l ∈ ll, l.length ≤ 9223372036854775807) :
    Calls Try.prog 57 #[.slice A ll.length c, .func (.func 37) #[] #[]] w fun e w' => (∃ i : Int, e = .returned (.int .i64 i) ∧ decide (0 ≤ i) = ll.any bigJ) ∧ w = w' := by
  have HW := Lib.hid h
  have HGR := Lib.hid hG
  have HLL := Lib.hid hlen
  obtain ⟨n, hn⟩ : ∃ n, ll.length = n := ⟨_, rfl⟩
  have HN := Lib.hid hn
  rw [hn] at hm ⊢
  clear h hn hG hlen
  go_enter Try.func57, Try.ntmps57
  go_wp2_with fail
  go_loop [8] (fun i => ∃ k : Nat, k ≤ n ∧ i = .int .i64 k ∧ Hid ((ll.take k).any bigJ = false)) (fun i => n - (intOf i).toNat)
  case atStart => exact ⟨0, by omega, rfl, Lib.hid (by simp)⟩
  case round =>
    obtain ⟨k, hk, rfl, HS⟩ := hrel
    by_cases hlt : k < n
    · obtain ⟨x, hx⟩ : ∃ x, ll[k]? = some x := ⟨ll[k]'(by rw [HN.out]; exact hlt), List.getElem?_eq_getElem _⟩
      obtain ⟨A1, c1, hA1, _, hE1⟩ := HGR.out.2 k x hx
      obtain ⟨b, off, e, hbk, p0⟩ := HW.out k _ hA1
      subst e
      have hltI : (k : Int) < (n : Int) := by omega
      have h0k : (0 : Int) ≤ (k : Int) := by omega
      have HS1 := Lib.hid (gr_snoc (p := bigJ) hx)
      have HYES := Lib.hid (fun hp => gr_yes (p := bigJ) hx hp)
      have C := Lib.hid (cbig_any A1 c1 x w hE1 (HLL.out x (List.mem_of_getElem? hx)))
      generalize bigJ x = q at C HS1 HYES
      generalize x.length = lx at *
      clear hx hA1 hE1
      cases q with
      | true =>
        go_wp2_with fail
        refine C.out.mono ?_
        rintro e _ ⟨rfl, rfl⟩
        go_wp2_with fail
        go_ret
        exact ⟨⟨(k : Int), rfl, by rw [HYES.out (by first | rfl | trivial)]; exact decide_eq_true (by omega)⟩, rfl⟩
      | false =>
        go_wp2_with fail
        refine C.out.mono ?_
        rintro e _ ⟨rfl, rfl⟩
        go_wp2_with fail
        go_round
        case rel => exact ⟨k + 1, by omega, by go_num, Lib.hid (by rw [HS1.out, HS.out]; rfl)⟩
        case measure => simp [intOf]; omega
    · obtain rfl : k = n := by omega
      have hge : ¬ (k : Int) < (k : Int) := by omega
      have HS1 : Hid (ll.any bigJ = false) := Lib.hid (by have := HS.out; rwa [List.take_of_length_le (by rw [HN.out]; omega)] at this)
      go_wp2_with fail
      go_ret
      exact ⟨⟨-1, rfl, by rw [HS1.out]; rfl⟩, rfl⟩
theorem bigcontains_any (A : Option Addr) (c : Nat) (hs : List Value) (ll : List (List Ent)) (w : World) (h : SlAt w w.heap.size A hs) (hG : GrAt w w.heap.size hs ll) (hm : ll.length ≤ 1000000) (hlen : ∀ l ∈ ll, l.length ≤ 9223372036854775807) :
    Calls Try.prog 36 #[.slice A ll.length c, .func (.func 37) #[] #[]] w fun e w' => e = .returned (.bool (ll.any bigJ)) ∧ w = w' := by
  have C := Lib.hid (bigindex_any A c hs ll w h hG hm hlen)
  generalize ll.any bigJ = q at *
  generalize ll.length = n at *
  clear h hG hlen
  go_enter Try.func36, Try.ntmps36
  go_wp2_with fail
  refine C.out.mono ?_
  rintro e _ ⟨⟨i, rfl, hi⟩, rfl⟩
  have HI := Lib.hid hi
  clear hi
  go_wp2_with fail
  go_ret
  exact ⟨ret_bool (by rw [← HI.out]), rfl⟩
theorem small_sizeL : ∀ {l : List Ent}, (∀ x ∈ l, x.d.size ≤ 400) → sizeL l ≤ 404 * l.length
  | [], _ => Nat.zero_le _
  | x :: l, h => by
    have h1 := small_sizeL (l := l) fun y hy => h y (List.mem_cons_of_mem _ hy)
    have h2 := h x (List.mem_cons_self ..)
    rw [sizeL_cons, List.length_cons]
    unfold sizeE
    omega
theorem joinR_le {ll : List (List Ent)} {ps : List Pl} : (joinR ll ps).length ≤ ll.length := by
  unfold joinR
  split
  · rw [jnK_length]; exact Nat.le_refl _
  · exact Nat.zero_le _
set_option maxRecDepth 100000 in
set_option maxHeartbeats 4000000 in
theorem joins_law (A : Option Addr) (len cap : Nat) (gs : List Gr) (Ap : Option Addr) (lenp capp : Nat) (ps : List Pl) (L : Int) (w : World) (h : IsL encGr (GrG w) w A len cap gs) (hp : IsL encP PlG w Ap lenp capp ps) (hL : (Lit.int .i64 L).wf = true) :
    Calls Try.prog 7 #[.slice A len cap, .slice Ap lenp capp, .int .i64 L] w fun e w' => e = .returned (.bool true) ∧ Below w.heap.size w w' := by
  have h5 := h.2.2.2.2
  obtain ⟨h1, h2, h3, h4, hG⟩ := h.grs
  obtain ⟨g1, g2, g3, g4, g5⟩ := hp
  have hlen : ∀ l ∈ gs.map (·.l), l.length ≤ 9223372036854775807 := by
    intro l hl
    obtain ⟨x, hx, rfl⟩ := List.mem_map.1 hl
    obtain ⟨_, e1, e2, _⟩ := h5 x hx
    unfold maxLen at e2
    omega
  have hL2 : L < 9223372036854775808 := by simp [Lit.wf] at hL; omega
  have hll : (gs.map (·.l)).length = len := by rw [List.length_map]; exact h1
  generalize gs.map (·.l) = ll at *
  generalize flat encGr gs = hs at *
  clear h h5 h1
  subst hll g1
  unfold maxLen at h3 g3
  have HE := Lib.hid h4
  have HGR := Lib.hid hG
  have HP : Hid (PlAt w w.heap.size Ap ps) := Lib.hid g4
  have HPG := Lib.hid g5
  clear h4 hG g4 g5
  by_cases hb1 : 6 < ll.length
  · have hI : (6 : Int) < (ll.length : Int) := by omega
    clear hlen HE HGR HP HPG
    generalize ll.length = n at *
    generalize ps.length = m at *
    go_enter Try.func7, Try.ntmps7
    go_wp2_with fail
    refine (awake_any _).mono ?_
    rintro e w0 ⟨rfl, hb0⟩
    have HB := Lib.hid hb0
    clear hb0
    go_wp2_with fail
    go_ret
    exact ⟨rfl, HB.out⟩
  · have hI : ¬ (6 : Int) < (ll.length : Int) := by omega
    by_cases hb2 : 6 < ps.length
    · have hJ : (6 : Int) < (ps.length : Int) := by omega
      clear hlen HE HGR HP HPG
      generalize ll.length = n at *
      generalize ps.length = m at *
      go_enter Try.func7, Try.ntmps7
      go_wp2_with fail
      refine (awake_any _).mono ?_
      rintro e w0 ⟨rfl, hb0⟩
      have HB := Lib.hid hb0
      clear hb0
      go_wp2_with fail
      go_ret
      exact ⟨rfl, HB.out⟩
    · have hJ : ¬ (6 : Int) < (ps.length : Int) := by omega
      have hm6 : ps.length ≤ 6 := by omega
      have CF := Lib.hid (fun w' (hb : Below w.heap.size w w') => bigcontains_any A cap hs ll w' ((SlAt.below HE.out hb).mono hb.size) ((HGR.out.below hb).mono hb.size) (by omega) hlen)
      cases hany : ll.any bigJ with
      | true =>
        rw [hany] at CF
        clear hlen HE HGR HP HPG hany
        generalize ll.length = n at *
        generalize ps.length = m at *
        go_enter Try.func7, Try.ntmps7
        go_wp2_with fail
        refine (awake_any _).mono ?_
        rintro e w0 ⟨rfl, hb0⟩
        have C1 := Lib.hid (CF.out w0 hb0)
        have HB := Lib.hid hb0
        clear hb0 CF
        go_wp2_with fail
        refine C1.out.mono ?_
        rintro e _ ⟨rfl, rfl⟩
        go_wp2_with fail
        go_ret
        exact ⟨rfl, HB.out⟩
      | false =>
        rw [hany] at CF
        have hsm : ∀ l ∈ ll, (l.length : Int) ≤ 40 ∧ ∀ x ∈ l, x.d.size ≤ 400 ∧ x.sg.size ≤ 20 := fun l hl => smallB_len (by
          have := List.any_eq_false.1 hany l hl
          unfold bigJ at this
          simpa using this)
        have hz : ∀ l ∈ ll, sizeL l ≤ 1000000 := fun l hl => by
          have h1 := hsm l hl
          have := small_sizeL (l := l) fun x hx => (h1.2 x hx).1
          omega
        have hsg : ∀ l ∈ ll, ∀ x ∈ l, x.sg.size ≤ 140737488351232 := fun l hl x hx => by have := ((hsm l hl).2 x hx).2; omega
        have CJ := Lib.hid (fun w' (hb : Below w.heap.size w w') => join_any A Ap cap capp hs ll ps w' ((SlAt.below HE.out hb).mono hb.size) ((HGR.out.below hb).mono hb.size) ((SlAt.below HP.out hb).mono hb.size) (by omega) (by omega) hz hsg HPG.out)
        have CK := Lib.hid (fun w' (hb : Below w.heap.size w w') => rjoin_any A Ap cap capp hs ll ps w' ((SlAt.below HE.out hb).mono hb.size) ((HGR.out.below hb).mono hb.size) ((SlAt.below HP.out hb).mono hb.size) (by omega) (by omega) hz hsg HPG.out)
        unfold JoinRes at CJ CK
        have hrl : (joinR ll ps).length ≤ 1000000 := by have := joinR_le (ll := ll) (ps := ps); omega
        have CM := Lib.hid (fun A A' c c' w h h' => eqstrs_same A A' c c' (joinR ll ps) w h h' hrl)
        generalize joinR ll ps = R at *
        generalize joinE ll ps = E at *
        obtain ⟨rl, hrl2⟩ : ∃ rl, R.length = rl := ⟨_, rfl⟩
        rw [hrl2] at CJ CK CM
        obtain ⟨m, hm⟩ : ∃ m, ps.length = m := ⟨_, rfl⟩
        have HM := Lib.hid hm
        rw [hm] at CJ CK hJ hm6 g2 ⊢
        clear hlen hany hsm hz hsg HE HGR hrl hrl2 hb1 hb2 hm
        generalize ll.length = n at *
        go_enter Try.func7, Try.ntmps7
        go_wp2_with fail
        refine (awake_any _).mono ?_
        rintro e w0 ⟨rfl, hb0⟩
        have C1 := Lib.hid (CF.out w0 hb0)
        have C2 := Lib.hid (CJ.out w0 hb0)
        have HB := Lib.hid hb0
        clear hb0 CF CJ
        go_wp2_with fail
        refine C1.out.mono ?_
        rintro e _ ⟨rfl, rfl⟩
        go_wp2_with fail
        refine C2.out.mono ?_
        rintro e w1 ⟨hb1, A1, c1, rfl, ho1⟩
        have HB1 := Lib.hid (HB.out.trans (hb1.mono HB.out.size))
        have HO1 := Lib.hid ho1
        have C3 := Lib.hid (CK.out w1 HB1.out)
        clear hb1 ho1 HB C1 C2 CK
        go_wp2_with fail
        refine C3.out.mono ?_
        rintro e w2 ⟨hb2, A2, c2, rfl, ho2⟩
        have HB2 := Lib.hid (HB1.out.trans (hb2.mono HB1.out.size))
        have C4 := Lib.hid (CM.out A1 A2 c1 c2 w2 ((SlAt.below HO1.out hb2).mono hb2.size) ho2)
        clear hb2 ho2 HB1 C3 CM HO1
        go_wp2_with fail
        refine C4.out.mono ?_
        rintro e w3 ⟨rfl, hb3⟩
        have HB3 := Lib.hid (HB2.out.trans (hb3.mono HB2.out.size))
        clear hb3 HB2 C4
        go_wp2_with fail
        go_loopw [54] (fun i wr => ∃ k : Nat, k ≤ m ∧ i = .int .i64 k ∧ Below w.heap.size w wr) (fun i _ => m - (intOf i).toNat)
        case atStart => exact ⟨0, by omega, rfl, HB3.out⟩
        case round =>
          obtain ⟨k, hk, rfl, hbel⟩ := hrel
          by_cases hlt : k < m
          · obtain ⟨x, hx⟩ : ∃ x, ps[k]? = some x := ⟨ps[k]'(by rw [HM.out]; exact hlt), List.getElem?_eq_getElem _⟩
            obtain ⟨b, off, hA, hbk⟩ := HP.out.one (by rw [HM.out]; omega)
            subst hA
            obtain ⟨p0, p1⟩ := (HP.out.below hbel).cells rfl hx
            obtain ⟨v0, v1⟩ := HPG.out x (List.mem_of_getElem? hx)
            have CN := Lib.hid (fun w => continuation_any x.lba x.off L w v0 v1 hL2)
            have CR := Lib.hid (fun w => rcontinuation_any x.lba x.off L w v0 v1 hL2)
            have hltI : (k : Int) < (m : Int) := by omega
            have h0k : (0 : Int) ≤ (k : Int) := by omega
            have HB4 := Lib.hid hbel
            generalize contX x.lba x.off L = X at CN CR
            generalize contE x.lba x.off L = XE at CN CR
            obtain ⟨a, o⟩ := x
            obtain ⟨sg, v, d⟩ := X
            unfold entV at CN CR
            dsimp only at p0 p1 CN CR
            clear hx v0 v1 hbel
            go_wp2_with fail
            have HS1 := Lib.hid ((St.start wr).new (g := wr.heap.size) rfl #[.int .i64 a, .int .i64 o] 53)
            clear p0 p1
            refine (CN.out _).mono ?_
            rintro e w5 ⟨rfl, hb5⟩
            have HS2 := Lib.hid (St.call hb5 HS1.out)
            clear hb5 HS1
            obtain ⟨g0, hg0⟩ : ∃ g, wr.heap.size = g := ⟨_, rfl⟩
            rw [hg0] at HS2 ⊢
            have HG0 := Lib.hid hg0
            clear hg0
            have q0 := (HS2.out.at (i := 0) rfl).cell
            have l0 := HS2.out.lt (i := 0) rfl
            go_wp2_with fail
            have HS3 := Lib.hid (HS2.out.new (g := w5.heap.size) rfl #[.string sg, .int .i64 v, .string d] 41)
            clear q0 l0 HS2
            refine (CR.out _).mono ?_
            rintro e w6 ⟨rfl, hb6⟩
            have HS4 := Lib.hid (St.call hb6 HS3.out)
            clear hb6 HS3
            obtain ⟨g1, hg1⟩ : ∃ g, w5.heap.size = g := ⟨_, rfl⟩
            rw [hg1] at HS4 ⊢
            clear hg1
            have q1 := (HS4.out.at (i := 0) rfl).cell
            have l1 := HS4.out.lt (i := 0) rfl
            go_wp2_with fail
            have HS5 := Lib.hid (HS4.out.new (g := w6.heap.size) rfl #[.string sg, .int .i64 v, .string d] 41)
            clear q1 l1 HS4
            go_roundw
            case rel => exact ⟨k + 1, by omega, by go_num, HB4.out.trans (HS5.out.bel.mono HB4.out.size)⟩
            case measure => simp [intOf]; omega
          · have hge : ¬ (k : Int) < (m : Int) := by omega
            go_wp2_with fail
            go_ret
            exact ⟨rfl, hbel⟩
end Go.Proofs.Ytnomodbcpndocaa
