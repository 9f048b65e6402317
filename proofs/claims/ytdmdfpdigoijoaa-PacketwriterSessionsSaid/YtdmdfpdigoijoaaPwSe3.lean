/-
  Chapter 52: sessions: Execute of the reference.
-/
import Derived.Test.YtdmdfpdigoijoaaPwSe2
namespace Go.Proofs.Ytdmdfpdigoijoaa
open Go.RowKit
set_option linter.unusedVariables false

theorem flat_set {S : List Ses} {k : Nat} {x : Ses} (hx : S[k]? = some x) : (flat encSe S).set (k * 3 + 2) (.bool true) = flat encSe (S.set k ⟨x.start, x.count, true⟩) := by
  have hk := (List.getElem?_eq_some_iff.1 hx).1
  have h1 : S = S.take k ++ x :: S.drop (k + 1) := by
    rw [← (List.getElem?_eq_some_iff.1 hx).2, List.getElem_cons_drop, List.take_append_drop]
  have h2 : S.set k ⟨x.start, x.count, true⟩ = S.take k ++ ⟨x.start, x.count, true⟩ :: S.drop (k + 1) := by
    rw [List.set_eq_take_append_cons_drop, if_pos hk]
  have h3 : (flat encSe (S.take k)).length = k * 3 := by rw [flat_length encSe_length, List.length_take, Nat.min_eq_left (by omega)]
  have e1 : flat encSe S = flat encSe (S.take k) ++ (encSe x ++ flat encSe (S.drop (k + 1))) := by
    conv => lhs; rw [h1]
    unfold flat
    rw [List.flatMap_append, List.flatMap_cons]
  have e2 : flat encSe (S.set k ⟨x.start, x.count, true⟩) = flat encSe (S.take k) ++ (encSe ⟨x.start, x.count, true⟩ ++ flat encSe (S.drop (k + 1))) := by
    rw [h2]
    unfold flat
    rw [List.flatMap_append, List.flatMap_cons]
  rw [e1, e2, List.set_append_right _ _ (by omega), h3, Nat.add_sub_cancel_left]
  rfl
theorem sesStep_app {st ct : Int} {S : List Ses} (h : ∀ x, S[S.length - 1]? = some x → x.closed = true) : sesStep st ct S = S ++ [⟨st, ct, true⟩] := by
  unfold sesStep
  rw [List.getLast?_eq_getElem?]
  cases hx : S[S.length - 1]? with
  | none => rfl
  | some x => dsimp only; rw [if_pos (h x hx)]
theorem sesStep_set {st ct : Int} {S : List Ses} {x : Ses} (hx : S[S.length - 1]? = some x) (h : x.closed = false) : sesStep st ct S = S.set (S.length - 1) ⟨x.start, x.count, true⟩ := by
  unfold sesStep
  rw [List.getLast?_eq_getElem?, hx]
  dsimp only
  rw [h, if_neg (by simp)]
theorem iterS_len {st ct : Int} {S : List Ses} : ∀ k, (iterS st ct S k).length ≤ S.length + k
  | 0 => Nat.le_refl _
  | k + 1 => by
    have ih := iterS_len (st := st) (ct := ct) (S := S) k
    have := sesStep_len st ct (iterS st ct S k)
    show (sesStep st ct (iterS st ct S k)).length ≤ _
    omega
theorem cutR_zero {img : Img} {ws : List Wr} {n : Int} {R : Img × Int} (h : cutR img ws n = R) (hz : R.2 = 0) : validB img ws = true ∧ 0 ≤ n ∧ n ≤ (nSt ws : Int) := by
  unfold cutR at h
  cases hv : validB img ws with
  | false => rw [hv, if_neg (by simp)] at h; rw [← h] at hz; cases hz
  | true =>
    rw [hv, if_pos rfl] at h
    by_cases hc : n < 0 ∨ (nSt ws : Int) < n
    · rw [if_pos hc] at h; rw [← h] at hz; cases hz
    · exact ⟨rfl, by omega, by omega⟩
theorem SlAt.far_row {w : World} {B g : Nat} {A : Option Addr} {l : List ByteArray} {t : TypeId} {cs : Array Value} (h : SlAt w B A (strV l)) (hr : RowAt w g t cs) (hcs : ∀ (i : Nat) (s : ByteArray), cs[i]? ≠ some (Value.string s)) (j : Nat) (v : Value) : SlAt (w.setCell ⟨g, j, none⟩ v) B A (strV l) := fun i u hu => by
  obtain ⟨b, off, ea, hb, hc⟩ := h i u hu
  refine ⟨b, off, ea, hb, ?_⟩
  have hne : b ≠ g := by
    intro e
    subst e
    rw [hr.cell] at hc
    unfold strV at hu
    rw [List.getElem?_map] at hu
    obtain ⟨s, _, rfl⟩ := Option.map_eq_some_iff.1 hu
    exact hcs _ _ hc
  exact (World.cell?_of_block (Below.heap_setCell w ⟨g, j, none⟩ v b hne)).trans hc
theorem slices2 {A B : Option Addr} {n m c d : Nat} : ∀ (i : Nat) (s : ByteArray), (#[Value.slice A n c, Value.slice B m d] : Array Value)[i]? ≠ some (.string s) := by
  intro i s h
  match i with
  | 0 => simp at h
  | 1 => simp at h
  | k + 2 => simp at h
theorem seRows_ty4 {g0 g1 g2 g3 : Nat} {a b c d : Array Value} : ∀ r ∈ ([(g3, 55, d), (g2, 55, a), (g1, 57, b), (g0, 55, c)] : Rows), r.2.1 ≠ 65 := by
  intro r hr
  simp only [List.mem_cons, List.not_mem_nil, or_false] at hr
  rcases hr with rfl | rfl | rfl | rfl <;> (dsimp only; decide)
theorem seRows_ty {g0 g1 g2 : Nat} {a b c : Array Value} : ∀ r ∈ ([(g2, 55, a), (g1, 57, b), (g0, 55, c)] : Rows), r.2.1 ≠ 65 := by
  intro r hr
  simp only [List.mem_cons, List.not_mem_nil, or_false] at hr
  rcases hr with rfl | rfl | rfl <;> (dsimp only; decide)
set_option maxRecDepth 100000 in
set_option maxHeartbeats 4000000 in
theorem rexec_any (A A' A2 : Option Addr) (c c' c2 : Nat) (img : Img) (S : List Ses) (ws : List Wr) (st ct n : Int) (w : World) (hs : SlAt w w.heap.size A (strV img)) (h2 : SlAt w w.heap.size A2 (flat encSe S)) (h : WrAt w w.heap.size A' ws) (hi : img.length ≤ 1000000) (hw : ws.length ≤ 1000) (hx : ∀ x ∈ ws, x.bl.length ≤ 10000) (hS : nSt ws ≤ 1000000) (hl : S.length ≤ 1000) :
    Calls Try.prog 32 #[.agg #[.slice A img.length c, .slice A2 S.length c2], .agg #[.int .i64 st, .int .i64 ct], .slice A' ws.length c', .int .i64 n] w (ExeRes (exeR img ws n st ct S) w) := by
  have HA : Hid (Arg w A A' img ws) := Lib.hid ⟨hs, h⟩
  have HS2 := Lib.hid h2
  have CC := Lib.hid (fun w s h => rcut_any A A' c c' img ws n w s h hi hw hx (by omega))
  have HWL := Lib.hid hw
  have HX := Lib.hid hx
  have HSS := Lib.hid hS
  obtain ⟨li, hli⟩ : ∃ li, img.length = li := ⟨_, rfl⟩
  obtain ⟨lw, hlw⟩ : ∃ lw, ws.length = lw := ⟨_, rfl⟩
  obtain ⟨ls, hls⟩ : ∃ ls, S.length = ls := ⟨_, rfl⟩
  have HLW := Lib.hid hlw
  have HLS := Lib.hid hls
  rw [hli, hlw] at CC
  rw [hli, hlw, hls]
  rw [hls] at hl
  clear hs h2 h hi hw hx hS hli hlw hls
  have hSt := ((((St.start w).new (g := w.heap.size) rfl #[.slice A li c, .slice A2 ls c2] 55).new (g := w.heap.size + 1) (by simp) #[.int .i64 st, .int .i64 ct] 57)).new (g := w.heap.size + 2) (by simp) #[.slice none 0 0, .slice none 0 0] 55
  have HSt := Lib.hid hSt
  clear hSt
  go_enter Try.func32, Try.ntmps32
  have q0 := (HSt.out.at (i := 2) rfl).cell
  go_wp2_with fail
  refine (CC.out _ (HA.out.below HSt.out.bel).s (HA.out.below HSt.out.bel).t).mono ?_
  rintro e w1 ⟨hb1, A1, c1, rfl, hs1⟩
  obtain ⟨R, hR⟩ : ∃ R, cutR img ws n = R := ⟨_, rfl⟩
  have HR := Lib.hid hR
  rw [hR] at hs1 ⊢
  have H1 : Hid (St w w1 [(w.heap.size + 1 + 1, 55, #[.slice none 0 0, .slice none 0 0]), (w.heap.size + 1, 57, #[.int .i64 st, .int .i64 ct]), (w.heap.size, 55, #[.slice A li c, .slice A2 ls c2])]) := Lib.hid (St.call hb1 HSt.out)
  have HS1 := Lib.hid hs1
  clear hb1 hs1 hR q0 HSt
  obtain ⟨E, hE⟩ : ∃ E, R.2 = E := ⟨_, rfl⟩
  have HE := Lib.hid hE
  obtain ⟨lr, hlr⟩ : ∃ lr, R.1.length = lr := ⟨_, rfl⟩
  have HLR := Lib.hid hlr
  rw [hE, hlr]
  clear hE hlr
  by_cases hc : E = 0
  · subst hc
    have q0 := (H1.out.at (i := 2) rfl).cell
    have q1 := (H1.out.at (i := 1) rfl).cell
    have hlt := H1.out.lt (i := 2) rfl
    have HO := Lib.hid (World.ownsRow_lit (base := w1.heap.size) (e := 65) (size := 3) w1 #[] 0 (Nat.le_refl _) (by decide) rfl)
    have HOA := Lib.hid ((H1.out.new (g := w1.heap.size) rfl #[] 65))
    go_wp2_with (at_builtin; refine wpList_appX HO.out info_ses Try.underlying53 rfl (by decide) (by rw [flat_length encSe_length, HLS.out]) (HS2.out.below HOA.out.bel) (oneCell_encSe _) (by unfold maxLen; omega) (by omega) (by simp) rfl rfl (by rfl) (by rfl) ?_; intro v2 w2 hown2 hg2 _; rw [List.nil_append, Nat.zero_add] at hown2; obtain ⟨A3, c3, hv2⟩ := own_slice' hown2; subst hv2; have hbg2 : Below w1.heap.size w1 w2 := ((Below.refl _ w1).alloc (Nat.le_refl _) (.cells #[] 65)).grown hg2 (by simp) (fun k hk => (HO.out.lt k hk).1); have H2 := St.grown_ty (H1.out.other (.cells #[] 65)) HO.out hg2 H1.out.bel.size seRows_ty)
    obtain ⟨hv, hn0, hn1⟩ := cutR_zero HR.out HE.out
    obtain ⟨N, rfl⟩ : ∃ N : Nat, n = N := ⟨n.toNat, by omega⟩
    have hS6 := HSS.out
    have HWO := Lib.hid (valid_parts hv).2.2.2
    obtain ⟨K, hK⟩ : ∃ K, clK (stepsL ws) N = K := ⟨_, rfl⟩
    have HK := Lib.hid hK
    have hK6 : K ≤ 1000000 := by have := clK_le (stepsL ws) N; omega
    have CL := Lib.hid (fun w h => rcloses_any A' c' ws N w h HWL.out HX.out HWO.out (by omega) hS6)
    rw [HLW.out, hK] at CL
    obtain ⟨gd, hgd⟩ : ∃ gd, w2.heap.size = gd := ⟨_, rfl⟩
    have H3 := Lib.hid (H2.new (g := gd) hgd #[.slice A1 lr c1, .slice A3 ls c3] 55)
    have HO3 := Lib.hid (hown2.alloc (.cells #[.slice A1 lr c1, .slice A3 ls c3] 55))
    have hgb1 : w.heap.size ≤ w1.heap.size := H1.out.bel.size
    have HS3 := Lib.hid ((HS1.out.below (hbg2.alloc hbg2.size (.cells #[.slice A1 lr c1, .slice A3 ls c3] 55))))
    have HGD : Hid (w1.heap.size ≤ gd) := Lib.hid (by rw [← hgd]; exact hbg2.size)
    have HW3 : Hid (w1.heap.size ≤ (w2.alloc (.cells #[.slice A1 lr c1, .slice A3 ls c3] 55)).heap.size) := Lib.hid (Nat.le_trans hbg2.size (by simp))
    have hg2lt : w.heap.size + 1 + 1 < w1.heap.size := H1.out.lt (i := 0) rfl
    rw [hgd]
    clear hbg2 H2 hown2 hg2 q0 q1 hlt HO HOA hv hn0 hn1 hK
    generalize w2.alloc (.cells #[.slice A1 lr c1, .slice A3 ls c3] 55) = W3 at *
    refine (CL.out _ (HA.out.t.below H3.out.bel |>.mono H3.out.bel.size)).mono ?_
    rintro e w' ⟨rfl, rfl⟩
    go_wp2_with fail
    go_loopw [13] (fun kv wr => ∃ (j k : Nat) (A4 : Option Addr) (c4 L : Nat), Hid (j + k = K ∧ L = (iterS st ct S j).length) ∧ k ≤ K ∧ L ≤ 1001000 ∧ kv = .int .i64 (k : Int) ∧ wr.ownsRow w1.heap.size 65 3 (.slice A4 L c4) L (flat encSe (iterS st ct S j)) ∧ St w wr [(gd, 55, #[.slice A1 lr c1, .slice A4 L c4]), (w.heap.size + 1 + 1, 55, #[.slice none 0 0, .slice none 0 0]), (w.heap.size + 1, 57, #[.int .i64 st, .int .i64 ct]), (w.heap.size, 55, #[.slice A li c, .slice A2 ls c2])] ∧ Below w1.heap.size W3 wr) (fun kv _ => (intOf kv).toNat)
    case atStart => exact ⟨0, K, A3, c3, ls, Lib.hid ⟨by omega, HLS.out.symm⟩, Nat.le_refl _, by omega, rfl, HO3.out, H3.out, Below.refl _ _⟩
    case round =>
      clear H3 HO3
      obtain ⟨j, k, A4, c4, L, HJ, hk, hL, rfl, hown, hst, hbel⟩ := hrel
      have q0 := (hst.at (i := 0) rfl).cell
      have f0 := (hst.at (i := 0) rfl).frozen
      have q1 := (hst.at (i := 1) rfl).cell
      have f1 := (hst.at (i := 1) rfl).frozen
      have q2 := (hst.at (i := 2) rfl).cell
      by_cases hk0 : 0 < k
      · have hk0I : (0 : Int) < (k : Int) := by omega
        obtain ⟨k1, rfl⟩ : ∃ k1, k = k1 + 1 := ⟨k - 1, by omega⟩
        by_cases hopen : ∃ x, (iterS st ct S j)[L - 1]? = some x ∧ x.closed = false
        · obtain ⟨x, hx, hxc⟩ := hopen
          have hL0 : 0 < L := by have := (List.getElem?_eq_some_iff.1 hx).1; have := HJ.out.2; omega
          obtain ⟨go, cap, hv, hgo, hgol, _⟩ := own_form hown hL0
          injection hv with hA _ hc
          subst hA hc
          have c2' := hown.cellAt ((L - 1) * 3 + 2) (by omega)
          rw [flat_get encSe_length _ (L - 1) 2 x hx (by omega)] at c2'
          replace c2' : wr.cell? ⟨go, (L - 1) * 3 + 2, none⟩ = some (.bool false) := by rw [c2', ← hxc]; rfl
          have f2' := hown.frozenAt ((L - 1) * 3 + 2)
          have eL : ((L : Int) - 1).toNat = L - 1 := by omega
          have h0L : (0 : Int) ≤ (L : Int) - 1 := by omega
          have HIT : Hid (iterS st ct S (j + 1) = (iterS st ct S j).set (L - 1) ⟨x.start, x.count, true⟩) := Lib.hid (by
            show sesStep st ct (iterS st ct S j) = _
            rw [sesStep_set (by rw [← HJ.out.2]; exact hx) hxc, ← HJ.out.2])
          have hown6 := (hown.stored ((L - 1) * 3 + 2) (.bool true)).1
          rw [flat_set hx, ← HIT.out] at hown6
          have hst6 := hst.grown_ty hown (hown.stored ((L - 1) * 3 + 2) (.bool true)).2 hgb1 seRows_ty4
          have hbel6 := hbel.setCell (p := ⟨go, (L - 1) * 3 + 2, none⟩) hgo (.bool true)
          have HOS := Lib.hid (And.intro hown6 (And.intro hst6 hbel6))
          clear hown6 hst6 hbel6 hx hown hst hbel
          go_wp2_with fail
          go_roundw
          case rel => exact ⟨j + 1, k1, some ⟨go, 0, none⟩, c4, L, Lib.hid ⟨by have := HJ.out.1; omega, by rw [HIT.out, List.length_set]; exact HJ.out.2⟩, by omega, hL, by go_num, HOS.out.1, HOS.out.2.1, HOS.out.2.2⟩
          case measure => first | (simp [intOf]; done) | (simp [intOf]; omega)
        · have HIT : Hid (iterS st ct S (j + 1) = iterS st ct S j ++ [⟨st, ct, true⟩]) := Lib.hid (by
            show sesStep st ct (iterS st ct S j) = _
            refine sesStep_app fun x hx => ?_
            rw [← HJ.out.2] at hx
            cases hc : x.closed with
            | true => rfl
            | false => exact absurd ⟨x, hx, hc⟩ hopen)
          have hB1 : w1.heap.size ≤ wr.heap.size := Nat.le_trans HW3.out hbel.size
          have hgd1 : w1.heap.size ≤ gd := HGD.out
          by_cases hL0 : 0 < L
          · obtain ⟨x, hx⟩ : ∃ x, (iterS st ct S j)[L - 1]? = some x := ⟨_, List.getElem?_eq_getElem (by have := HJ.out.2; omega)⟩
            have hxc : x.closed = true := by
              cases hc : x.closed with
              | true => rfl
              | false => exact absurd ⟨x, hx, hc⟩ hopen
            obtain ⟨go, cap, hv, hgo, hgol, _⟩ := own_form hown hL0
            injection hv with hA _ hc
            subst hA hc
            have c2' := hown.cellAt ((L - 1) * 3 + 2) (by omega)
            rw [flat_get encSe_length _ (L - 1) 2 x hx (by omega)] at c2'
            replace c2' : wr.cell? ⟨go, (L - 1) * 3 + 2, none⟩ = some (.bool true) := by rw [c2', ← hxc]; rfl
            have eL : ((L : Int) - 1).toNat = L - 1 := by omega
            have h0L : (0 : Int) ≤ (L : Int) - 1 := by omega
            have h1L : (1 : Int) ≤ (L : Int) := by omega
            clear hx hxc hopen
            go_wp2_with (at_builtin; refine wpList_appN hown info_ses Try.underlying53 rfl (by decide) (us := [.int .i64 st, .int .i64 ct, .bool true]) rfl (by unfold maxLen; omega) (by omega) hB1 (by intro u hu; simp only [List.mem_cons, List.not_mem_nil, or_false] at hu; rcases hu with rfl | rfl | rfl <;> rfl) rfl rfl (by rfl) (by rfl) ?_; intro v5 w5 hown5 hb5 hg5; have hst5 := hst.grown_ty hown hg5 hgb1 seRows_ty4; have hbel5 := hbel.grown hg5 hB1 (fun k hk => (hown.lt k hk).1); obtain ⟨A5, c5, hv5⟩ := own_slice' hown5; subst hv5; have q5 := (hst5.at (i := 0) rfl).cell; have f5 := (hst5.at (i := 0) rfl).frozen)
            have hst6 := hst5.set 0 rfl 1 (.slice A5 (L + 1) c5)
            have hown6 := own_set_ty (j := 1) (u := .slice A5 (L + 1) c5) hown5 (hst5.at (i := 0) rfl) (by decide)
            have hbel6 := hbel5.setCell (p := ⟨gd, 1, none⟩) hgd1 (.slice A5 (L + 1) c5)
            rw [show flat encSe (iterS st ct S j) ++ [.int .i64 st, .int .i64 ct, .bool true] = flat encSe (iterS st ct S (j + 1)) by rw [HIT.out, flat_snoc]; rfl] at hown6
            go_roundw
            case rel => exact ⟨j + 1, k1, A5, c5, L + 1, Lib.hid ⟨by have := HJ.out.1; omega, by rw [HIT.out, List.length_append, ← HJ.out.2]; rfl⟩, by omega, by have := HJ.out; have := iterS_len (st := st) (ct := ct) (S := S) j; have := HLS.out; omega, by go_num, hown6, hst6, hbel6⟩
            case measure => first | (simp [intOf]; done) | (simp [intOf]; omega)
          · have h0L : ¬ (0 : Int) ≤ (L : Int) - 1 := by omega
            have h1L : ¬ (1 : Int) ≤ (L : Int) := by omega
            clear hopen
            go_wp2_with (at_builtin; refine wpList_appN hown info_ses Try.underlying53 rfl (by decide) (us := [.int .i64 st, .int .i64 ct, .bool true]) rfl (by unfold maxLen; omega) (by omega) hB1 (by intro u hu; simp only [List.mem_cons, List.not_mem_nil, or_false] at hu; rcases hu with rfl | rfl | rfl <;> rfl) rfl rfl (by rfl) (by rfl) ?_; intro v5 w5 hown5 hb5 hg5; have hst5 := hst.grown_ty hown hg5 hgb1 seRows_ty4; have hbel5 := hbel.grown hg5 hB1 (fun k hk => (hown.lt k hk).1); obtain ⟨A5, c5, hv5⟩ := own_slice' hown5; subst hv5; have q5 := (hst5.at (i := 0) rfl).cell; have f5 := (hst5.at (i := 0) rfl).frozen)
            have hst6 := hst5.set 0 rfl 1 (.slice A5 (L + 1) c5)
            have hown6 := own_set_ty (j := 1) (u := .slice A5 (L + 1) c5) hown5 (hst5.at (i := 0) rfl) (by decide)
            have hbel6 := hbel5.setCell (p := ⟨gd, 1, none⟩) hgd1 (.slice A5 (L + 1) c5)
            rw [show flat encSe (iterS st ct S j) ++ [.int .i64 st, .int .i64 ct, .bool true] = flat encSe (iterS st ct S (j + 1)) by rw [HIT.out, flat_snoc]; rfl] at hown6
            go_roundw
            case rel => exact ⟨j + 1, k1, A5, c5, L + 1, Lib.hid ⟨by have := HJ.out.1; omega, by rw [HIT.out, List.length_append, ← HJ.out.2]; rfl⟩, by omega, by have := HJ.out; have := iterS_len (st := st) (ct := ct) (S := S) j; have := HLS.out; omega, by go_num, hown6, hst6, hbel6⟩
            case measure => first | (simp [intOf]; done) | (simp [intOf]; omega)
      · obtain rfl : k = 0 := by omega
        have HJK : Hid (iterS st ct S j = sesK st ct (stepsL ws) S N) := Lib.hid (by
          rw [sesK_iter, HK.out]
          have := HJ.out.1
          congr 1)
        have HLF : Hid (L = (sesK st ct (stepsL ws) S N).length) := Lib.hid (by rw [← HJK.out]; exact HJ.out.2)
        have hk00 : ¬ (0 : Int) < ((0 : Nat) : Int) := by omega
        have HST := Lib.hid hst
        have HOW := Lib.hid hown
        have HBL := Lib.hid hbel
        clear hst hown hbel
        by_cases h16 : 16 < L
        · have h16I : (16 : Int) < (L : Int) := by omega
          have HF : Hid (exeR img ws (N : Int) st ct S = ([], [], 12)) := Lib.hid (by unfold exeR; rw [HR.out, if_neg (by rw [HE.out]; simp), Int.toNat_natCast, if_pos (by rw [← HLF.out]; exact h16)])
          have H2 := (HST.out.set 1 rfl 0 (.slice none 0 0)).set 1 rfl 1 (.slice none 0 0)
          have HH2 := Lib.hid H2
          clear H2
          go_wp2_with fail
          have q3 := (HH2.out.at (i := 1) rfl).cell
          exact bodyPost_ret (v := .tuple #[.agg #[.slice none 0 0, .slice none 0 0], .int .i64 12]) (by simp [results, Try.results32, go_sem, q3]) rfl ⟨HH2.out.bel, none, 0, none, 0, by rw [HF.out]; rfl, by rw [HF.out]; exact SlAt.nil _ _ _, by rw [HF.out]; exact SlAt.nil _ _ _⟩
        · have h16I : ¬ (16 : Int) < (L : Int) := by omega
          have HF : Hid (exeR img ws (N : Int) st ct S = (R.1, sesK st ct (stepsL ws) S N, 0)) := Lib.hid (by unfold exeR; rw [HR.out, if_neg (by rw [HE.out]; simp), Int.toNat_natCast, if_neg (by rw [← HLF.out]; exact h16)])
          have H2 := (HST.out.set 1 rfl 0 (.slice A1 lr c1)).set 1 rfl 1 (.slice A4 L c4)
          have HH2 := Lib.hid H2
          have hs4 := ((HS3.out.below HBL.out).far_row (HST.out.at (i := 1) rfl) slices2 0 (.slice A1 lr c1)).far_row ((HST.out.set 1 rfl 0 (.slice A1 lr c1)).at (i := 1) rfl) slices2 1 (.slice A4 L c4)
          have ho4 := own_set (j := 1) (u := .slice A4 L c4) (own_set (j := 0) (u := .slice A1 lr c1) HOW.out hg2lt) hg2lt
          have HS4 := Lib.hid (And.intro (hs4.mono (C := ((wr.setCell ⟨w.heap.size + 1 + 1, 0, none⟩ (.slice A1 lr c1)).setCell ⟨w.heap.size + 1 + 1, 1, none⟩ (.slice A4 L c4)).heap.size) (by simpa using Nat.le_trans HW3.out HBL.out.size)) (SlAt.of_own' ho4 (Nat.le_refl _)))
          clear H2 hs4 ho4
          go_wp2_with fail
          have q3 := (HH2.out.at (i := 1) rfl).cell
          exact bodyPost_ret (v := .tuple #[.agg #[.slice A1 lr c1, .slice A4 L c4], .int .i64 0]) (by simp [results, Try.results32, go_sem, q3]) rfl ⟨HH2.out.bel, A1, c1, A4, c4, by rw [HF.out, ← HLR.out, ← HLF.out], by rw [HF.out]; exact HS4.out.1, by rw [HF.out, ← HJK.out]; exact HS4.out.2⟩
  · have f2 := (H1.out.at (i := 0) rfl).frozen
    have q2 := (H1.out.at (i := 0) rfl).cell
    have H2 := (H1.out.set 0 rfl 0 (.slice none 0 0)).set 0 rfl 1 (.slice none 0 0)
    have HF : Hid (exeR img ws n st ct S = ([], [], E)) := Lib.hid (by unfold exeR; rw [HR.out, if_pos (by rw [HE.out]; exact hc), HE.out])
    go_wp2_with fail
    have q3 := (H2.at (i := 0) rfl).cell
    exact bodyPost_ret (v := .tuple #[.agg #[.slice none 0 0, .slice none 0 0], .int .i64 E]) (by simp [results, Try.results32, go_sem, q3]) rfl ⟨H2.bel, none, 0, none, 0, by rw [HF.out]; rfl, by rw [HF.out]; exact SlAt.nil _ _ _, by rw [HF.out]; exact SlAt.nil _ _ _⟩
end Go.Proofs.Ytdmdfpdigoijoaa
