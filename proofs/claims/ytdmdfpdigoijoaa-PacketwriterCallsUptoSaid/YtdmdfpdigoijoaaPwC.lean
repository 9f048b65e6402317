/-
  Chapter 52: Valid, of both (printed by gen_pwc.py).
-/
import Derived.Test.YtdmdfpdigoijoaaPwB
namespace Go.Proofs.Ytdmdfpdigoijoaa
open Go.RowKit
set_option linter.unusedVariables false

theorem validB_eq {img : Img} {ws : List Wr} {n m : Nat} (hn : img.length = n) (hm : ws.length = m) : validB img ws = (decide (n ≤ 4096) && (decide (m ≤ 1024) && (img.all elOk && ws.all wrOk))) := by unfold validB; rw [hn, hm]
set_option maxHeartbeats 4000000 in
set_option maxRecDepth 100000 in
theorem valid_any (A A' : Option Addr) (c c' : Nat) (img : Img) (ws : List Wr) (w : World) (hs : SlAt w w.heap.size A (strV img)) (h : WrAt w w.heap.size A' ws) (hi : img.length ≤ 1000000) (hw : ws.length ≤ 1000000) (hx : ∀ x ∈ ws, x.bl.length ≤ 1000000) :
    Calls Try.prog 17 #[.slice A img.length c, .slice A' ws.length c'] w fun e w' => e = .returned (.bool (validB img ws)) ∧ Below w.heap.size w w' := by
  have HSL := Lib.hid hs
  have HW := Lib.hid h
  have HX := Lib.hid hx
  obtain ⟨n, hn⟩ : ∃ n, img.length = n := ⟨_, rfl⟩
  obtain ⟨m, hm⟩ : ∃ m, ws.length = m := ⟨_, rfl⟩
  have HV := Lib.hid (validB_eq hn hm)
  have HN := Lib.hid hn
  have HM := Lib.hid hm
  rw [hn] at hi
  rw [hm] at hw
  rw [hn, hm, HV.out]
  clear hs h hx hn hm HV
  by_cases h4 : n ≤ 4096
  · have h4I : ¬ (4096 : Int) < (n : Int) := by omega
    rw [decide_eq_true h4]
    by_cases h1 : m ≤ 1024
    · have h1I : ¬ (1024 : Int) < (m : Int) := by omega
      rw [decide_eq_true h1]
      go_enter Try.func17, Try.ntmps17
      go_wp2_with fail
      go_loop [19] (fun i => ∃ k : Nat, k ≤ n ∧ i = .int .i64 k ∧ Hid ((img.take k).all elOk = true)) (fun i => n - (intOf i).toNat)
      case atStart => exact ⟨0, by omega, rfl, Lib.hid (by simp)⟩
      case round =>
        obtain ⟨k, hk, rfl, HS⟩ := hrel
        by_cases hlt : k < n
        · obtain ⟨s, hs⟩ : ∃ s, img[k]? = some s := ⟨img[k]'(by rw [HN.out]; exact hlt), List.getElem?_eq_getElem _⟩
          obtain ⟨b, off, hA, hbk⟩ := HSL.out.strAddr (by rw [HN.out]; omega)
          subst hA
          have p0 := HSL.out.str rfl hs
          have hltI : (k : Int) < (n : Int) := by omega
          have h0k : (0 : Int) ≤ (k : Int) := by omega
          have HS1 := Lib.hid (all_snoc (p := elOk) hs)
          have HNO := Lib.hid (fun hp => all_no (p := elOk) hs hp)
          have HE : Hid (elOk s = (decide (s.toList = []) || (decide (s.toList = [33]) || decide (s.size = 2048)))) := rfl
          clear hs
          by_cases k1 : s.toList = []
          · have HOK : Hid (elOk s = true) := Lib.hid (by rw [HE.out, k1]; rfl)
            go_wp2_with fail
            go_round
            case rel => exact ⟨k + 1, by omega, by go_num, Lib.hid (by rw [HS1.out, HS.out, HOK.out]; rfl)⟩
            case measure => simp [intOf]; omega
          · by_cases k2 : s.toList = [33]
            · have HOK : Hid (elOk s = true) := Lib.hid (by rw [HE.out, k2]; rfl)
              go_wp2_with fail
              go_round
              case rel => exact ⟨k + 1, by omega, by go_num, Lib.hid (by rw [HS1.out, HS.out, HOK.out]; rfl)⟩
              case measure => simp [intOf]; omega
            · by_cases k3 : s.size = 2048
              · have HOK : Hid (elOk s = true) := Lib.hid (by rw [HE.out, decide_eq_true k3]; simp)
                have k3b : ((s.size : Int) != 2048) = false := by rw [bne_eq_false_iff_eq]; omega
                clear k3
                go_wp2_with fail
                go_round
                case rel => exact ⟨k + 1, by omega, by go_num, Lib.hid (by rw [HS1.out, HS.out, HOK.out]; rfl)⟩
                case measure => simp [intOf]; omega
              · have HOK : Hid (elOk s = false) := Lib.hid (by rw [HE.out, decide_eq_false k3, decide_eq_false k2, decide_eq_false k1]; rfl)
                have k3b : ((s.size : Int) != 2048) = true := by rw [bne_iff_ne]; omega
                have k1b : (!s.toList.isEmpty) = true := by simp [k1]
                have k2b : (!s.toList == [33]) = true := by simp [k2]
                clear k3
                go_wp2_with fail
                go_ret
                exact ⟨ret_bool (by simp [HNO.out HOK.out]), Below.refl _ _⟩
        · obtain rfl : k = n := by omega
          have hge : ¬ (k : Int) < (k : Int) := by omega
          have HA1 : Hid (img.all elOk = true) := Lib.hid (by have := HS.out; rwa [List.take_of_length_le (by rw [HN.out]; omega)] at this)
          clear HS
          go_wp2_with fail
          go_loopw [37] (fun i wr => ∃ j : Nat, j ≤ m ∧ i = .int .i64 j ∧ Hid ((ws.take j).all wrOk = true) ∧ Below w.heap.size w wr) (fun i _ => m - (intOf i).toNat)
          case atStart => exact ⟨0, by omega, rfl, Lib.hid (by simp), Below.refl _ _⟩
          case round =>
            obtain ⟨j, hj, rfl, HS, hbel⟩ := hrel
            by_cases hjt : j < m
            · obtain ⟨x, hx⟩ : ∃ x, ws[j]? = some x := ⟨ws[j]'(by rw [HM.out]; exact hjt), List.getElem?_eq_getElem _⟩
              obtain ⟨b, off, hA, hbk⟩ := HW.out.one (by rw [HM.out]; omega)
              subst hA
              obtain ⟨p0, p1, p2, p3⟩ := (HW.out.below hbel).cells rfl hx
              have hjtI : (j : Int) < (m : Int) := by omega
              have h0j : (0 : Int) ≤ (j : Int) := by omega
              have HS1 := Lib.hid (all_snoc (p := wrOk) hx)
              have HNO := Lib.hid (fun hp => all_no (p := wrOk) hx hp)
              have hxl := HX.out x (List.mem_of_getElem? hx)
              have CC := Lib.hid (fun w' (hb : Below w.heap.size w w') => vcontains_any x.A x.cap x.bl w' (((HW.out.2 x (List.mem_of_getElem? hx)).1.below hb).mono hb.size) hxl)
              clear hx
              obtain ⟨xp, xA, xc, xb, xs, xcl⟩ := x
              dsimp only at p0 p1 p2 p3 hxl CC
              have HE : Hid (wrOk ⟨xp, xA, xc, xb, xs, xcl⟩ = (decide (0 ≤ xp) && (decide (xp ≤ 4096) && (decide ((xb.length : Int) ≤ 4096 - xp) && (!(xcl && decide (0 < xb.length)) && xb.all blkOk))))) := rfl
              have hbelA := hbel.alloc hbel.size (.cells #[.int .i64 xp, .slice xA xb.length xc, .bool xs, .bool xcl] 49)
              by_cases c1 : xp < 0
              · have HOK : Hid (wrOk ⟨xp, xA, xc, xb, xs, xcl⟩ = false) := Lib.hid (by rw [HE.out, decide_eq_false (by omega : ¬ 0 ≤ xp)]; rfl)
                go_wp2_with fail
                go_ret
                exact ⟨ret_bool (by simp [HNO.out HOK.out]), hbelA⟩
              · by_cases c2 : 4096 < xp
                · have HOK : Hid (wrOk ⟨xp, xA, xc, xb, xs, xcl⟩ = false) := Lib.hid (by rw [HE.out, decide_eq_false (by omega : ¬ xp ≤ 4096)]; simp)
                  go_wp2_with fail
                  go_ret
                  exact ⟨ret_bool (by simp [HNO.out HOK.out]), hbelA⟩
                · by_cases c3 : 4096 - xp < (xb.length : Int)
                  · have HOK : Hid (wrOk ⟨xp, xA, xc, xb, xs, xcl⟩ = false) := Lib.hid (by rw [HE.out, decide_eq_false (by omega : ¬ (xb.length : Int) ≤ 4096 - xp)]; simp)
                    go_wp2_with fail
                    go_ret
                    exact ⟨ret_bool (by simp [HNO.out HOK.out]), hbelA⟩
                  · have HE2 : Hid (wrOk ⟨xp, xA, xc, xb, xs, xcl⟩ = (!(xcl && decide (0 < xb.length)) && xb.all blkOk)) := Lib.hid (by rw [HE.out, decide_eq_true (by omega : 0 ≤ xp), decide_eq_true (by omega : xp ≤ 4096), decide_eq_true (by omega : (xb.length : Int) ≤ 4096 - xp)]; rfl)
                    by_cases c4 : xcl = true ∧ 0 < xb.length
                    · obtain ⟨rfl, c5⟩ := c4
                      have HOK : Hid (wrOk ⟨xp, xA, xc, xb, xs, true⟩ = false) := Lib.hid (by rw [HE2.out, decide_eq_true c5]; rfl)
                      have c5I : (0 : Int) < (xb.length : Int) := by omega
                      go_wp2_with fail
                      go_ret
                      exact ⟨ret_bool (by simp [HNO.out HOK.out]), hbelA⟩
                    · have HE3 : Hid (wrOk ⟨xp, xA, xc, xb, xs, xcl⟩ = xb.all blkOk) := Lib.hid (by
                        rw [HE2.out]
                        cases xcl with
                        | false => rfl
                        | true => rw [decide_eq_false (fun h => c4 ⟨rfl, h⟩)]; rfl)
                      have c6 : xcl = false ∨ (xcl = true ∧ ¬ (0 : Int) < (xb.length : Int)) := by
                        cases xcl with
                        | false => exact .inl rfl
                        | true => exact .inr ⟨rfl, fun h => c4 ⟨rfl, by omega⟩⟩
                      clear c4 HE HE2
                      have CC2 := Lib.hid (CC.out _ hbelA)
                      cases hb : xb.all blkOk with
                      | false =>
                        have HOK : Hid (wrOk ⟨xp, xA, xc, xb, xs, xcl⟩ = false) := Lib.hid (by rw [HE3.out, hb])
                        rw [hb] at CC2
                        clear hb
                        rcases c6 with rfl | ⟨rfl, c7⟩
                        all_goals
                          go_wp2_with fail
                          refine CC2.out.mono ?_
                          rintro e w' ⟨rfl, rfl⟩
                          go_wp2_with fail
                          go_ret
                          exact ⟨ret_bool (by simp [HNO.out HOK.out]), hbelA⟩
                      | true =>
                        have HOK : Hid (wrOk ⟨xp, xA, xc, xb, xs, xcl⟩ = true) := Lib.hid (by rw [HE3.out, hb])
                        rw [hb] at CC2
                        clear hb
                        rcases c6 with rfl | ⟨rfl, c7⟩
                        all_goals
                          go_wp2_with fail
                          refine CC2.out.mono ?_
                          rintro e w' ⟨rfl, rfl⟩
                          go_wp2_with fail
                          go_roundw
                          case rel => exact ⟨j + 1, by omega, by go_num, Lib.hid (by rw [HS1.out, HS.out, HOK.out]; rfl), hbelA⟩
                          case measure => simp [intOf]; omega
            · obtain rfl : j = m := by omega
              have hge2 : ¬ (j : Int) < (j : Int) := by omega
              have HA2 : Hid (ws.all wrOk = true) := Lib.hid (by have := HS.out; rwa [List.take_of_length_le (by rw [HM.out]; omega)] at this)
              go_wp2_with fail
              go_ret
              exact ⟨ret_bool (by simp [HA1.out, HA2.out]), hbel⟩
    · have h1I : (1024 : Int) < (m : Int) := by omega
      rw [decide_eq_false h1]
      go_enter Try.func17, Try.ntmps17
      go_wp2_with fail
      go_ret
      exact ⟨rfl, Below.refl _ _⟩
  · have h4I : (4096 : Int) < (n : Int) := by omega
    rw [decide_eq_false h4]
    go_enter Try.func17, Try.ntmps17
    go_wp2_with fail
    go_ret
    exact ⟨rfl, Below.refl _ _⟩
set_option maxHeartbeats 4000000 in
set_option maxRecDepth 100000 in
theorem rvalid_any (A A' : Option Addr) (c c' : Nat) (img : Img) (ws : List Wr) (w : World) (hs : SlAt w w.heap.size A (strV img)) (h : WrAt w w.heap.size A' ws) (hi : img.length ≤ 1000000) (hw : ws.length ≤ 1000000) (hx : ∀ x ∈ ws, x.bl.length ≤ 1000000) :
    Calls Try.prog 18 #[.slice A img.length c, .slice A' ws.length c'] w fun e w' => e = .returned (.bool (validB img ws)) ∧ Below w.heap.size w w' := by
  have HSL := Lib.hid hs
  have HW := Lib.hid h
  have HX := Lib.hid hx
  obtain ⟨n, hn⟩ : ∃ n, img.length = n := ⟨_, rfl⟩
  obtain ⟨m, hm⟩ : ∃ m, ws.length = m := ⟨_, rfl⟩
  have HV := Lib.hid (validB_eq hn hm)
  have HN := Lib.hid hn
  have HM := Lib.hid hm
  have CI := Lib.hid (rvalidimg_any A c img w hs hi)
  have HIO : Hid (imgOk img = (decide (n ≤ 4096) && img.all elOk)) := Lib.hid (by unfold imgOk; rw [hn])
  rw [hn] at hi CI
  rw [hm] at hw
  rw [hn, hm, HV.out]
  clear hs h hx hn hm HV
  cases hio : imgOk img with
  | false =>
    have HR : Hid ((decide (n ≤ 4096) && (decide (m ≤ 1024) && (img.all elOk && ws.all wrOk))) = false) := Lib.hid (by
      rw [HIO.out] at hio
      cases h1 : decide (n ≤ 4096) <;> cases h2 : img.all elOk <;> rw [h1, h2] at hio <;> simp at hio ⊢)
    rw [hio] at CI
    rw [HR.out]
    clear hio HR HIO
    go_enter Try.func18, Try.ntmps18
    go_wp2_with fail
    refine CI.out.mono ?_
    rintro e w' ⟨rfl, rfl⟩
    go_wp2_with fail
    go_ret
    exact ⟨rfl, Below.refl _ _⟩
  | true =>
    have HR : Hid ((decide (n ≤ 4096) && (decide (m ≤ 1024) && (img.all elOk && ws.all wrOk))) = (decide (m ≤ 1024) && ws.all wrOk)) := Lib.hid (by
      rw [HIO.out, Bool.and_eq_true] at hio
      rw [hio.1, hio.2]
      rfl)
    rw [hio] at CI
    rw [HR.out]
    clear hio HR HIO
    by_cases h1 : m ≤ 1024
    · have h1I : ¬ (1024 : Int) < (m : Int) := by omega
      rw [decide_eq_true h1]
      go_enter Try.func18, Try.ntmps18
      go_wp2_with fail
      refine CI.out.mono ?_
      rintro e w' ⟨rfl, rfl⟩
      go_wp2_with fail
      go_loopw [5] (fun i wr => ∃ j : Nat, j ≤ m ∧ i = .int .i64 j ∧ Hid ((ws.take j).all wrOk = true) ∧ Below w.heap.size w wr) (fun i _ => m - (intOf i).toNat)
      case atStart => exact ⟨0, by omega, rfl, Lib.hid (by simp), Below.refl _ _⟩
      case round =>
        obtain ⟨j, hj, rfl, HS, hbel⟩ := hrel
        obtain ⟨wo, rfl⟩ : ∃ wo : World, wo = wr := ⟨_, rfl⟩
        by_cases hjt : j < m
        · obtain ⟨x, hx⟩ : ∃ x, ws[j]? = some x := ⟨ws[j]'(by rw [HM.out]; exact hjt), List.getElem?_eq_getElem _⟩
          obtain ⟨b, off, hA, hbk⟩ := HW.out.one (by rw [HM.out]; omega)
          subst hA
          obtain ⟨p0, p1, p2, p3⟩ := (HW.out.below hbel).cells rfl hx
          have hjtI : (j : Int) < (m : Int) := by omega
          have h0j : (0 : Int) ≤ (j : Int) := by omega
          have HS1 := Lib.hid (all_snoc (p := wrOk) hx)
          have HNO := Lib.hid (fun hp => all_no (p := wrOk) hx hp)
          have hxl := HX.out x (List.mem_of_getElem? hx)
          have HBS := Lib.hid (HW.out.2 x (List.mem_of_getElem? hx)).1
          clear hx
          obtain ⟨xp, xA, xc, xb, xs, xcl⟩ := x
          dsimp only at p0 p1 p2 p3 hxl HBS
          have HE : Hid (wrOk ⟨xp, xA, xc, xb, xs, xcl⟩ = (decide (0 ≤ xp) && (decide (xp ≤ 4096) && (decide ((xb.length : Int) ≤ 4096 - xp) && (!(xcl && decide (0 < xb.length)) && xb.all blkOk))))) := rfl
          have hbelA := hbel.alloc hbel.size (.cells #[.int .i64 xp, .slice xA xb.length xc, .bool xs, .bool xcl] 49)
          by_cases c1 : xp < 0
          · have HOK : Hid (wrOk ⟨xp, xA, xc, xb, xs, xcl⟩ = false) := Lib.hid (by rw [HE.out, decide_eq_false (by omega : ¬ 0 ≤ xp)]; rfl)
            go_wp2_with fail
            go_ret
            exact ⟨ret_bool (by simp [HNO.out HOK.out]), hbelA⟩
          · by_cases c2 : 4096 < xp
            · have HOK : Hid (wrOk ⟨xp, xA, xc, xb, xs, xcl⟩ = false) := Lib.hid (by rw [HE.out, decide_eq_false (by omega : ¬ xp ≤ 4096)]; simp)
              go_wp2_with fail
              go_ret
              exact ⟨ret_bool (by simp [HNO.out HOK.out]), hbelA⟩
            · by_cases c3 : 4096 - xp < (xb.length : Int)
              · have HOK : Hid (wrOk ⟨xp, xA, xc, xb, xs, xcl⟩ = false) := Lib.hid (by rw [HE.out, decide_eq_false (by omega : ¬ (xb.length : Int) ≤ 4096 - xp)]; simp)
                go_wp2_with fail
                go_ret
                exact ⟨ret_bool (by simp [HNO.out HOK.out]), hbelA⟩
              · have HE2 : Hid (wrOk ⟨xp, xA, xc, xb, xs, xcl⟩ = (!(xcl && decide (0 < xb.length)) && xb.all blkOk)) := Lib.hid (by rw [HE.out, decide_eq_true (by omega : 0 ≤ xp), decide_eq_true (by omega : xp ≤ 4096), decide_eq_true (by omega : (xb.length : Int) ≤ 4096 - xp)]; rfl)
                by_cases c4 : xcl = true ∧ 0 < xb.length
                · obtain ⟨rfl, c5⟩ := c4
                  have HOK : Hid (wrOk ⟨xp, xA, xc, xb, xs, true⟩ = false) := Lib.hid (by rw [HE2.out, decide_eq_true c5]; rfl)
                  have c5I : (0 : Int) < (xb.length : Int) := by omega
                  go_wp2_with fail
                  go_ret
                  exact ⟨ret_bool (by simp [HNO.out HOK.out]), hbelA⟩
                · have HE3 : Hid (wrOk ⟨xp, xA, xc, xb, xs, xcl⟩ = xb.all blkOk) := Lib.hid (by
                    rw [HE2.out]
                    cases xcl with
                    | false => rfl
                    | true => rw [decide_eq_false (fun h => c4 ⟨rfl, h⟩)]; rfl)
                  have c6 : xcl = false ∨ (xcl = true ∧ ¬ (0 : Int) < (xb.length : Int)) := by
                    cases xcl with
                    | false => exact .inl rfl
                    | true => exact .inr ⟨rfl, fun h => c4 ⟨rfl, by omega⟩⟩
                  clear c4 HE HE2
                  obtain ⟨L, hL⟩ : ∃ L, xb.length = L := ⟨_, rfl⟩
                  have HLL := Lib.hid hL
                  rw [hL] at p1 hxl c3 c6 hbelA
                  clear hL
                  have hszw : wo.heap.size < (wo.alloc (.cells #[.int .i64 xp, .slice xA L xc, .bool xs, .bool xcl] 49)).heap.size := by simp
                  rcases c6 with rfl | ⟨rfl, c7⟩
                  · go_wp2_with fail
                    go_loop [7] (fun i => ∃ t : Nat, t ≤ L ∧ i = .int .i64 t ∧ Hid ((xb.take t).all blkOk = true)) (fun i => L - (intOf i).toNat)
                    case atStart => exact ⟨0, by omega, rfl, Lib.hid (by simp)⟩
                    case round =>
                      obtain ⟨t, ht, rfl, HT⟩ := hrel
                      by_cases htl : t < L
                      · obtain ⟨s, hs⟩ : ∃ s, xb[t]? = some s := ⟨xb[t]'(by rw [HLL.out]; exact htl), List.getElem?_eq_getElem _⟩
                        obtain ⟨bb, boff, hA2, hbb⟩ := HBS.out.strAddr (by rw [HLL.out]; omega)
                        subst hA2
                        have q0 := (HBS.out.below hbelA).str rfl hs
                        have htI : (t : Int) < (L : Int) := by omega
                        have h0t : (0 : Int) ≤ (t : Int) := by omega
                        have HT1 := Lib.hid (all_snoc (p := blkOk) hs)
                        have HTN := Lib.hid (fun hp => all_no (p := blkOk) hs hp)
                        clear hs
                        by_cases k3 : s.size = 2048
                        · have HOK : Hid (blkOk s = true) := Lib.hid (decide_eq_true k3)
                          have k3b : ((s.size : Int) != 2048) = false := by rw [bne_eq_false_iff_eq]; omega
                          clear k3
                          go_wp2_with fail
                          go_round
                          case rel => exact ⟨t + 1, by omega, by go_num, Lib.hid (by rw [HT1.out, HT.out, HOK.out]; rfl)⟩
                          case measure => simp [intOf]; omega
                        · have HOK := Lib.hid (HE3.out.trans (HTN.out (decide_eq_false k3)))
                          have k3b : ((s.size : Int) != 2048) = true := by rw [bne_iff_ne]; omega
                          clear k3
                          go_wp2_with fail
                          go_ret
                          exact ⟨ret_bool (by simp [HNO.out HOK.out]), hbelA⟩
                      · obtain rfl : t = L := by omega
                        have hge3 : ¬ (t : Int) < (t : Int) := by omega
                        have HOK := Lib.hid (HE3.out.trans (show xb.all blkOk = true by have := HT.out; rwa [List.take_of_length_le (by rw [HLL.out]; omega)] at this))
                        go_wp2_with fail
                        go_roundw
                        case rel => exact ⟨j + 1, by omega, by go_num, Lib.hid (by rw [HS1.out, HS.out, HOK.out]; rfl), hbelA⟩
                        case measure => simp [intOf]; omega
                  · go_wp2_with fail
                    go_loopw [7] (fun i wr => ∃ t : Nat, t ≤ L ∧ i = .int .i64 t ∧ Hid ((xb.take t).all blkOk = true) ∧ Hid (wr = wo.alloc (.cells #[.int .i64 xp, .slice xA L xc, .bool xs, .bool true] 49))) (fun i _ => L - (intOf i).toNat)
                    case atStart => exact ⟨0, by omega, rfl, Lib.hid (by simp), Lib.hid rfl⟩
                    case round =>
                      obtain ⟨t, ht, rfl, HT, HWR⟩ := hrel
                      have hwr := HWR.out
                      subst hwr
                      by_cases htl : t < L
                      · exfalso; omega
                      · obtain rfl : t = L := by omega
                        have hge3 : ¬ (t : Int) < (t : Int) := by omega
                        have HOK := Lib.hid (HE3.out.trans (show xb.all blkOk = true by have := HT.out; rwa [List.take_of_length_le (by rw [HLL.out]; omega)] at this))
                        go_wp2_with fail
                        go_roundw
                        case rel => exact ⟨j + 1, by omega, by go_num, Lib.hid (by rw [HS1.out, HS.out, HOK.out]; rfl), hbelA⟩
                        case measure => simp [intOf]; omega
        · obtain rfl : j = m := by omega
          have hge2 : ¬ (j : Int) < (j : Int) := by omega
          have HA2 : Hid (ws.all wrOk = true) := Lib.hid (by have := HS.out; rwa [List.take_of_length_le (by rw [HM.out]; omega)] at this)
          go_wp2_with fail
          go_ret
          exact ⟨ret_bool (by simp [HA2.out]), hbel⟩
    · have h1I : (1024 : Int) < (m : Int) := by omega
      rw [decide_eq_false h1]
      go_enter Try.func18, Try.ntmps18
      go_wp2_with fail
      refine CI.out.mono ?_
      rintro e w' ⟨rfl, rfl⟩
      go_wp2_with fail
      go_ret
      exact ⟨rfl, Below.refl _ _⟩
end Go.Proofs.Ytdmdfpdigoijoaa
