/-
  The walk of the law PacketwriterJoins.
-/
import Derived.Test.YtdmdfpdigoijoaaPwOp
import Derived.Test.YtdmdfpdigoijoaaAppAny
import Derived.WalkSpells
namespace Go.Proofs.Ytdmdfpdigoijoaa
open Go.RowKit
set_option linter.unusedVariables false

theorem stepsL_append (a b : List Wr) : stepsL (a ++ b) = stepsL a ++ stepsL b := by unfold stepsL; rw [List.flatMap_append]
theorem nSt_append (a b : List Wr) : nSt (a ++ b) = nSt a + nSt b := by unfold nSt; rw [stepsL_append, List.length_append]
theorem cutK_bound {n m : Nat} {steps : List Stp} {img : Img} : ∀ k, k ≤ n → k ≤ m → cutK n steps img k = cutK m steps img k
  | 0, _, _ => rfl
  | k + 1, hn, hm => by
    cases hs : steps[k]? with
    | none => unfold cutK; rw [hs]; exact cutK_bound k (by omega) (by omega)
    | some s =>
      rw [cutK_succ hs, cutK_succ hs, cutK_bound (n := n) (m := m) k (by omega) (by omega)]
      unfold apS
      rw [if_pos (show k < n by omega), if_pos (show k < m by omega)]
theorem cutK_join {p n : Nat} {sa sb : List Stp} {img : Img} (hp : sa.length = p) : ∀ k, k ≤ sb.length → cutK (p + n) (sa ++ sb) img (p + k) = cutK n sb (cutK p sa img p) k
  | 0, _ => by
    rw [Nat.add_zero]
    show _ = cutK p sa img p
    exact (cutK_bound (n := p + n) (m := p) p (by omega) (Nat.le_refl _)).trans (cutK_pre ⟨sb, rfl⟩ p (Nat.le_of_eq hp.symm)).symm
  | k + 1, hk => by
    have ih := cutK_join (n := n) (sb := sb) (img := img) hp k (by omega)
    have hs : sb[k]? = some sb[k] := List.getElem?_eq_getElem (by omega)
    have hs2 : (sa ++ sb)[p + k]? = some sb[k] := by rw [List.getElem?_append_right (by omega), hp, Nat.add_sub_cancel_left]; exact hs
    rw [← Nat.add_assoc, cutK_succ hs2, cutK_succ hs, ih]
    unfold apS
    by_cases hkn : k < n
    · rw [if_pos hkn, if_pos (show p + k < p + n by omega)]
    · rw [if_neg hkn, if_neg (show ¬ p + k < p + n by omega)]
theorem cutL_self (sa : List Stp) (img : Img) : cutL sa.length sa img = cutK sa.length sa img sa.length := by
  unfold cutL
  rw [show min (sa.length + 1) sa.length = sa.length by omega]
theorem cutL_join {n : Nat} (sa sb : List Stp) (img : Img) : cutL (sa.length + n) (sa ++ sb) img = cutL n sb (cutL sa.length sa img) := by
  rw [cutL_self]
  unfold cutL
  rw [List.length_append, show min (sa.length + n + 1) (sa.length + sb.length) = sa.length + min (n + 1) sb.length by omega]
  exact cutK_join rfl _ (by omega)
theorem putL_mem {img : Img} {a : Nat} {b s : ByteArray} (h : s ∈ putL img a b) : s ∈ img ∨ s = blankS ∨ s = b := by
  unfold putL at h
  rcases List.mem_or_eq_of_mem_set h with h | h
  · rcases List.mem_append.1 h with h | h
    · exact .inl h
    · exact .inr (.inl (List.eq_of_mem_replicate h))
  · exact .inr (.inr h)
theorem stepsL_blk {ws : List Wr} (h : ws.all wrOk = true) : ∀ s ∈ stepsL ws, s.cl = true ∨ blkOk s.b = true := by
  intro s hs
  unfold stepsL at hs
  obtain ⟨x, hx, hs⟩ := List.mem_flatMap.1 hs
  have hxo := List.all_eq_true.1 h x hx
  unfold wrOk at hxo
  simp only [Bool.and_eq_true] at hxo
  have hbl := hxo.2.2.2.2
  unfold stepsW at hs
  rcases List.mem_append.1 hs with hs | hs
  · unfold stepsB at hs
    obtain ⟨i, hi, rfl⟩ := List.mem_map.1 hs
    have hi := List.mem_range.1 hi
    right
    dsimp only
    rw [List.getElem?_eq_getElem hi, Option.getD_some]
    exact List.all_eq_true.1 hbl _ (List.getElem_mem hi)
  · split at hs
    · obtain rfl := List.mem_singleton.1 hs
      exact .inl rfl
    · exact absurd hs List.not_mem_nil
theorem valid_parts {img : Img} {ws : List Wr} (h : validB img ws = true) : img.length ≤ 4096 ∧ ws.length ≤ 1024 ∧ img.all elOk = true ∧ ws.all wrOk = true := by
  unfold validB at h
  simp only [Bool.and_eq_true, decide_eq_true_eq] at h
  exact h
theorem elOk_blank : elOk blankS = true := by
  unfold elOk
  rw [decide_eq_true (show blankS.toList = [] by rw [ByteArray.toList_eq]; rfl)]
  rfl
theorem elOk_unr : elOk unrS = true := by
  unfold elOk
  rw [decide_eq_true (show unrS.toList = [33] by rw [ByteArray.toList_eq]; rfl)]
  simp
theorem elOk_blk {b : ByteArray} (h : blkOk b = true) : elOk b = true := by unfold elOk; rw [h]; simp
/-- What is cut out of valid writes is a valid image. -/
theorem cutK_valid {n : Nat} {img : Img} {ws : List Wr} (hi : img.length ≤ 4096) (hie : img.all elOk = true) (hw : ws.all wrOk = true) : ∀ k, (cutK n (stepsL ws) img k).length ≤ 4096 ∧ (cutK n (stepsL ws) img k).all elOk = true
  | 0 => ⟨hi, hie⟩
  | k + 1 => by
    obtain ⟨h1, h2⟩ := cutK_valid (n := n) hi hie hw k
    cases hs : (stepsL ws)[k]? with
    | none => unfold cutK; rw [hs]; exact ⟨h1, h2⟩
    | some s =>
      have hm := List.mem_of_getElem? hs
      rw [cutK_succ hs]
      refine ⟨apS_len (steps_ok hw s hm) h1, ?_⟩
      unfold apS
      split
      · exact h2
      · rename_i hc
        refine List.all_eq_true.2 fun t ht => ?_
        rcases putL_mem ht with ht | rfl | rfl
        · exact List.all_eq_true.1 h2 t ht
        · exact elOk_blank
        · split
          · rcases stepsL_blk hw s hm with h | h
            · exact absurd h hc
            · exact elOk_blk h
          · exact elOk_unr
theorem joins_valid {img : Img} {a b : List Wr} (ha : validB img a = true) (hb : validB img b = true) (hl : a.length + b.length ≤ 1024) : validB img (a ++ b) = true := by
  obtain ⟨h1, h2, h3, h4⟩ := valid_parts ha
  obtain ⟨_, h5, _, h6⟩ := valid_parts hb
  unfold validB
  rw [decide_eq_true h1, decide_eq_true (by rw [List.length_append]; exact hl), h3, List.all_append, h4, h6]
  rfl
theorem joins_first {img : Img} {a b : List Wr} (ha : validB img a = true) (hb : validB img b = true) : validB (cutL (nSt a) (stepsL a) img) b = true := by
  obtain ⟨h1, h2, h3, h4⟩ := valid_parts ha
  obtain ⟨_, h5, _, h6⟩ := valid_parts hb
  obtain ⟨k1, k2⟩ := cutK_valid (n := nSt a) h1 h3 h4 (min (nSt a + 1) (stepsL a).length)
  unfold validB cutL
  rw [decide_eq_true k1, decide_eq_true h5, k2, h6]
  rfl
theorem cutR_ok {img : Img} {ws : List Wr} {n : Nat} (h : validB img ws = true) (hn : n ≤ nSt ws) : cutR img ws (n : Int) = (cutL n (stepsL ws) img, 0) := by
  unfold cutR
  rw [if_pos h, if_neg (by omega), Int.toNat_natCast]
theorem oneCell_encW (ws : List Wr) : ∀ u ∈ flat encW ws, u.oneCell' = true := by
  intro u hu
  unfold flat at hu
  obtain ⟨x, _, hx⟩ := List.mem_flatMap.1 hu
  simp only [encW, List.mem_cons, List.not_mem_nil, or_false] at hx
  rcases hx with rfl | rfl | rfl | rfl <;> rfl
theorem flat_append {α : Type} (enc : α → List Value) (l m : List α) : flat enc (l ++ m) = flat enc l ++ flat enc m := by unfold flat; rw [List.flatMap_append]
set_option maxHeartbeats 1000000 in
theorem clonew_any (A : Option Addr) (c : Nat) (ws : List Wr) (w : World) (hs : WrAt w w.heap.size A ws) (hl : ws.length ≤ 1000000) :
    Calls Try.prog 29 #[.slice A ws.length c] w fun e w' => ∃ v, e = .returned v ∧ w'.ownsRow w.heap.size 49 4 v ws.length (flat encW ws) ∧ Below w.heap.size w w' := by
  have hq := fun (w : World) (a : Option Addr) (n c n' c' : Nat) => Lib.run_eql_slice_nil (P := Try.prog) w 24 49 a n c n' c' Try.underlying24
  cases A with
  | none =>
    have h0 : ws = [] := by
      cases ws with
      | nil => rfl
      | cons s r =>
        obtain ⟨b, off, e, _⟩ := hs.one (by simp)
        cases e
    subst h0
    go_enter Try.func29, Try.ntmps29
    go_wp2_with fail
    go_ret
    exact ⟨_, rfl, World.ownsRow_nil _ _ _ _, Below.refl _ _⟩
  | some ad =>
    have HS := Lib.hid hs
    obtain ⟨n, hn⟩ : ∃ n, ws.length = n := ⟨_, rfl⟩
    have HN := Lib.hid hn
    rw [hn] at hl ⊢
    clear hs hn
    go_enter Try.func29, Try.ntmps29
    have HO := Lib.hid (World.ownsRow_lit (base := w.heap.size) (e := 49) (size := 4) w #[] 0 (Nat.le_refl _) (by decide) rfl)
    go_wp2_with (at_builtin; refine wpList_appX HO.out info_wr Try.underlying24 rfl (by decide) (by rw [flat_length encW_length, HN.out]) (HS.out.1.below ((Below.refl _ _).alloc (Nat.le_refl _) _)) (oneCell_encW _) (by unfold maxLen; omega) (by omega) (by simp) rfl rfl (by rfl) (by rfl) ?_; intro v1 w1 hown1 hg1 _; rw [List.nil_append, Nat.zero_add] at hown1; obtain ⟨A1, c1, hv1⟩ := own_slice' hown1; subst hv1)
    go_ret
    refine ⟨_, rfl, hown1, ((Below.refl _ w).alloc (Nat.le_refl _) _).grown hg1 (by simp) (fun k hk => ?_)⟩
    have := (HO.out.lt k hk).1
    exact this
theorem WrAt.joined {w : World} {base n c : Nat} {A A1 A2 : Option Addr} {a b : List Wr} (ho : w.ownsRow base 49 4 (.slice A n c) n (flat encW (a ++ b))) (ha : WrAt w w.heap.size A1 a) (hb : WrAt w w.heap.size A2 b) : WrAt w w.heap.size A (a ++ b) :=
  ⟨SlAt.of_own' ho (Nat.le_refl _), fun x hx => by
    rcases List.mem_append.1 hx with hx | hx
    · exact ha.2 x hx
    · exact hb.2 x hx⟩
set_option maxRecDepth 100000 in
set_option maxHeartbeats 4000000 in
theorem joins_walk (A : Option Addr) (len cap : Nat) (img : List ByteArray) (Aa : Option Addr) (lena capa : Nat) (a : List Wr) (Ab : Option Addr) (lenb capb : Nat) (b : List Wr) (n : Int) (w : World) (i0 : IsL (fun s => [Value.string s]) (fun s => s.size ≤ maxLen) w A len cap img) (i1 : IsL encW (WrG w) w Aa lena capa a) (i2 : IsL encW (WrG w) w Ab lenb capb b) (i3 : (Lit.int .i64 n).wf = true) :
    Calls Try.prog 7 #[.slice A len cap, .slice Aa lena capa, .slice Ab lenb capb, .int .i64 n] w fun e w' => e = .returned (.bool true) ∧ Below w.heap.size w w' := by
  obtain ⟨rfl, _, _, hs, _⟩ := i0.strs
  obtain ⟨rfl, _, _, ha⟩ := i1.wrs
  obtain ⟨rfl, _, _, hb⟩ := i2.wrs
  have hn64 := wf_i64 i3
  have HA : Hid (Arg w A Aa img a) := Lib.hid ⟨hs, ha⟩
  have HB : Hid (Arg w A Ab img b) := Lib.hid ⟨hs, hb⟩
  have CFa := Lib.hid (fun w h => few_any A Aa cap capa img a w h)
  have CFb := Lib.hid (fun w h => few_any A Ab cap capb img b w h)
  have CVa := Lib.hid (fun w s h gi gw gx => rvalid_any A Aa cap capa img a w s h gi gw gx)
  have CVb := Lib.hid (fun w s h gi gw gx => rvalid_any A Ab cap capb img b w s h gi gw gx)
  have CRa := Lib.hid (fun w s h gi gw gx gn => record_any A Aa cap capa img a w s h gi gw gx gn)
  have CSa := Lib.hid (fun w h gw gx => rsteps_any Aa capa a w h gw gx)
  have CSb := Lib.hid (fun w h gw gx => rsteps_any Ab capb b w h gw gx)
  have CCa := Lib.hid (fun w h gl => clonew_any Aa capa a w h gl)
  clear i0 i1 i2 i3 hs ha hb
  obtain ⟨li, hli⟩ : ∃ li, img.length = li := ⟨_, rfl⟩
  obtain ⟨la, hla⟩ : ∃ la, a.length = la := ⟨_, rfl⟩
  obtain ⟨lb, hlb⟩ : ∃ lb, b.length = lb := ⟨_, rfl⟩
  have HLI := Lib.hid hli
  have HLA := Lib.hid hla
  have HLB := Lib.hid hlb
  rw [hli, hla] at CFa CVa CRa
  rw [hli, hlb] at CFb CVb
  rw [hla] at CSa CCa
  rw [hlb] at CSb
  rw [hli, hla, hlb]
  clear hli hla hlb
  go_enter Try.func7, Try.ntmps7
  go_wp2_with fail
  refine (awake_any _).mono ?_
  rintro e w0 ⟨rfl, hb0⟩
  have HA0 := Lib.hid (HA.out.below hb0)
  have HB0 := Lib.hid (HB.out.below hb0)
  go_wp2_with fail
  refine (CFa.out _ HA0.out.t).mono ?_
  rintro e w' ⟨rfl, rfl⟩
  cases hFa : fewB img a with
  | false =>
    clear hFa
    go_wp2_with fail
    go_ret
    exact ⟨rfl, hb0⟩
  | true =>
  have HGa := Lib.hid (few_of hFa)
  clear hFa
  go_wp2_with fail
  refine (CFb.out _ HB0.out.t).mono ?_
  rintro e w' ⟨rfl, rfl⟩
  cases hFb : fewB img b with
  | false =>
    clear hFb
    go_wp2_with fail
    go_ret
    exact ⟨rfl, hb0⟩
  | true =>
  have HGb := Lib.hid (few_of hFb)
  clear hFb
  go_wp2_with fail
  refine (CVa.out _ HA0.out.s HA0.out.t (by have := HGa.out.i; have := HLI.out; omega) (by have := HGa.out.w; have := HLA.out; omega) HGa.out.x6).mono ?_
  rintro e w1 ⟨rfl, hb1⟩
  have HA1 := Lib.hid (HA0.out.below hb1)
  have HB1 := Lib.hid (HB0.out.below hb1)
  have HW1 := Lib.hid (hb0.trans (hb1.mono hb0.size))
  clear hb0 hb1
  cases hVa : validB img a with
  | false =>
    clear hVa
    go_wp2_with fail
    go_ret
    exact ⟨rfl, HW1.out⟩
  | true =>
  have HVa := Lib.hid hVa
  clear hVa
  go_wp2_with fail
  refine (CVb.out _ HB1.out.s HB1.out.t (by have := HGa.out.i; have := HLI.out; omega) (by have := HGb.out.w; have := HLB.out; omega) HGb.out.x6).mono ?_
  rintro e w2 ⟨rfl, hb2⟩
  have HA2 := Lib.hid (HA1.out.below hb2)
  have HB2 := Lib.hid (HB1.out.below hb2)
  have HW2 := Lib.hid (HW1.out.trans (hb2.mono HW1.out.size))
  clear hb2
  cases hVb : validB img b with
  | false =>
    clear hVb
    go_wp2_with fail
    go_ret
    exact ⟨rfl, HW2.out⟩
  | true =>
  have HVb := Lib.hid hVb
  clear hVb
  go_wp2_with fail
  have hNa := HGa.out.n
  have hNb := HGb.out.n
  obtain ⟨Na, hNa2⟩ : ∃ N, nSt a = N := ⟨_, rfl⟩
  obtain ⟨Nb, hNb2⟩ : ∃ N, nSt b = N := ⟨_, rfl⟩
  have HNA := Lib.hid hNa2
  have HNB := Lib.hid hNb2
  obtain ⟨F, hF⟩ : ∃ F, cutL Na (stepsL a) img = F := ⟨_, rfl⟩
  have HF : Hid (cutR img a (Na : Int) = (F, 0)) := Lib.hid (by rw [← hF, ← hNa2]; exact cutR_ok HVa.out (Nat.le_refl _))
  have HVF : Hid (validB F b = true) := Lib.hid (by rw [← hF, ← hNa2]; exact joins_first HVa.out HVb.out)
  have HFl : Hid (F.length ≤ 4096) := Lib.hid (valid_parts HVF.out).1
  obtain ⟨X, hX⟩ : ∃ X, cutL Nb (stepsL b) F = X := ⟨_, rfl⟩
  have HX : Hid (cutR F b (Nb : Int) = (X, 0)) := Lib.hid (by rw [← hX, ← hNb2]; exact cutR_ok HVF.out (Nat.le_refl _))
  have HVab : Hid (validB img (a ++ b) = true) := Lib.hid (joins_valid HVa.out HVb.out (by have := HGa.out.w; have := HGb.out.w; omega))
  have HXab : Hid (cutR img (a ++ b) ((nSt (a ++ b) : Nat) : Int) = (X, 0)) := Lib.hid (by
    rw [cutR_ok HVab.out (Nat.le_refl _), nSt_append, stepsL_append, ← hX, ← hF, ← hNa2, ← hNb2]
    exact congrArg (·, 0) (cutL_join (n := nSt b) (stepsL a) (stepsL b) img))
  have HCab : Hid (0 ≤ n → n ≤ (Nb : Int) → cutR img (a ++ b) ((Na : Int) + n) = cutR F b n ∧ (cutR F b n).2 = 0) := Lib.hid (fun h0 h1 => by
    obtain ⟨m, rfl⟩ : ∃ m : Nat, n = m := ⟨n.toNat, by omega⟩
    rw [cutR_ok HVF.out (by rw [hNb2]; omega), show (Na : Int) + (m : Int) = ((Na + m : Nat) : Int) by omega, cutR_ok HVab.out (by rw [nSt_append, hNa2, hNb2]; omega), stepsL_append, ← hF, ← hNa2]
    exact ⟨congrArg (·, 0) (cutL_join (n := m) (stepsL a) (stepsL b) img), rfl⟩)
  have HXl : Hid (X.length ≤ 4096) := Lib.hid (by
    obtain ⟨h1, h2, h3, h4⟩ := valid_parts HVF.out
    rw [← hX]
    exact (cutK_valid (n := Nb) h1 h3 h4 _).1)
  have HCl : Hid ((cutR F b n).1.length ≤ 1000000) := Lib.hid (by
    obtain ⟨h1, h2, h3, h4⟩ := valid_parts HVF.out
    unfold cutR
    rw [if_pos HVF.out]
    split
    · exact Nat.zero_le _
    · have := (cutK_valid (n := n.toNat) h1 h3 h4 (min (n.toNat + 1) (stepsL b).length)).1
      show (cutL n.toNat (stepsL b) F).length ≤ 1000000
      unfold cutL
      omega)
  have HERR : Hid (n < 0 ∨ (Nb : Int) < n → (cutR F b n).2 = 2) := Lib.hid (fun h => by
    unfold cutR
    rw [if_pos HVF.out, hNb2, if_pos h])
  rw [hNa2] at hNa CRa CSa
  rw [hNb2] at hNb CSb
  have CRab := Lib.hid (fun Ad cd w s h => record_any A Ad cap cd img (a ++ b) w s h HGa.out.i6 (by rw [List.length_append]; have := HGa.out.w; have := HGb.out.w; omega) (fun x hx => by rcases List.mem_append.1 hx with hx | hx; exact HGa.out.x6 x hx; exact HGb.out.x6 x hx) (by rw [nSt_append]; have := HGa.out.n; have := HGb.out.n; omega))
  have CCab := Lib.hid (fun Ad cd m w s h => cut_any A Ad cap cd img (a ++ b) m w s h HGa.out.i6 (by rw [List.length_append]; have := HGa.out.w; have := HGb.out.w; omega) (fun x hx => by rcases List.mem_append.1 hx with hx | hx; exact HGa.out.x6 x hx; exact HGb.out.x6 x hx) (by rw [nSt_append]; have := HGa.out.n; have := HGb.out.n; omega))
  have CRF := Lib.hid (fun A3 c3 w s h => record_any A3 Ab c3 capb F b w s h (by have := HFl.out; omega) HGb.out.w6 HGb.out.x6 HGb.out.n12)
  have CCF := Lib.hid (fun A3 c3 w s h => cut_any A3 Ab c3 capb F b n w s h (by have := HFl.out; omega) HGb.out.w6 HGb.out.x6 HGb.out.n12)
  rw [List.length_append, HLI.out, HLA.out, HLB.out] at CRab CCab
  rw [HLB.out] at CRF CCF
  rw [HNB.out] at CRF
  have hla30 : la ≤ 30 := by rw [← HLA.out]; exact HGa.out.w
  have hlb30 : lb ≤ 30 := by rw [← HLB.out]; exact HGb.out.w
  clear hNa2 hNb2 hF hX HA0 HA1 HB0 HB1 HW1 HA HB
  refine (CRa.out _ HA2.out.s HA2.out.t (by rw [← HLI.out]; exact HGa.out.i6) (by omega) HGa.out.x6 (by omega)).mono ?_
  rintro e w3 ⟨hb3, A3, c3, rfl, hs3⟩
  rw [HF.out] at hs3 ⊢
  have HA3 := Lib.hid (HA2.out.below hb3)
  have HB3 := Lib.hid (HB2.out.below hb3)
  have HW3 := Lib.hid (HW2.out.trans (hb3.mono HW2.out.size))
  have HS3 : Hid (SlAt w3 w3.heap.size A3 (strV F)) := Lib.hid hs3
  clear hs3 hb3 HA2 HB2 HW2
  go_wp2_with fail
  refine (CRF.out A3 c3 _ HS3.out HB3.out.t).mono ?_
  rintro e w4 ⟨hb4, A4, c4, rfl, hs4⟩
  rw [HX.out] at hs4 ⊢
  have HA4 := Lib.hid (HA3.out.below hb4)
  have HB4 := Lib.hid (HB3.out.below hb4)
  have HW4 := Lib.hid (HW3.out.trans (hb4.mono HW3.out.size))
  have HS4 := Lib.hid ((HS3.out.below hb4).mono hb4.size)
  have HT4 : Hid (SlAt w4 w4.heap.size A4 (strV X)) := Lib.hid hs4
  clear hs4 hb4 HA3 HB3 HW3 HS3
  go_wp2_with fail
  refine (CCa.out _ HA4.out.t (by omega)).mono ?_
  rintro e w5 ⟨v5, rfl, hown5, hb5⟩
  obtain ⟨A5, c5, hv5⟩ := own_slice' hown5
  subst hv5
  have HO5 := Lib.hid hown5
  have HB5 := Lib.hid hb5
  have HBB5 := Lib.hid (HB4.out.below hb5)
  clear hown5 hb5
  go_wp2_with (at_builtin; refine wpList_appX HO5.out info_wr Try.underlying24 rfl (by decide) (by rw [flat_length encW_length, HLB.out]) HBB5.out.t.1 (oneCell_encW _) (by unfold maxLen; omega) (by omega) HB5.out.size rfl rfl (by rfl) (by rfl) ?_; intro v6 w6 hown6 hg6 _; obtain ⟨A6, c6, hv6⟩ := own_slice' hown6; subst hv6)
  rw [← flat_append] at hown6
  have hb6 : Below w4.heap.size w4 w6 := HB5.out.grown hg6 HB5.out.size (fun k hk => (HO5.out.lt k hk).1)
  have HA6 := Lib.hid (HA4.out.below hb6)
  have HB6 := Lib.hid (HB4.out.below hb6)
  have HW6 := Lib.hid (HW4.out.trans (hb6.mono HW4.out.size))
  have HS6 := Lib.hid ((HS4.out.below hb6).mono hb6.size)
  have HT6 := Lib.hid ((HT4.out.below hb6).mono hb6.size)
  have HAB6 := Lib.hid (WrAt.joined hown6 HA6.out.t HB6.out.t)
  clear hown6 hg6 hb6 HA4 HB4 HW4 HS4 HT4 HB5 HBB5 HO5
  refine (CRab.out A6 c6 _ HA6.out.s HAB6.out).mono ?_
  rintro e w7 ⟨hb7, A7, c7, rfl, hs7⟩
  rw [HXab.out] at hs7 ⊢
  have HA7 := Lib.hid (HA6.out.below hb7)
  have HB7 := Lib.hid (HB6.out.below hb7)
  have HW7 := Lib.hid (HW6.out.trans (hb7.mono HW6.out.size))
  have HS7 := Lib.hid ((HS6.out.below hb7).mono hb7.size)
  have HT7 := Lib.hid ((HT6.out.below hb7).mono hb7.size)
  have HU7 : Hid (SlAt w7 w7.heap.size A7 (strV X)) := Lib.hid hs7
  clear hs7 hb7 HA6 HB6 HW6 HS6 HT6 HAB6
  go_wp2_with fail
  refine (eqimg_same A4 A7 c4 c7 X _ HT7.out HU7.out (by have := HXl.out; omega)).mono ?_
  rintro e w8 ⟨rfl, hb8⟩
  have HA8 := Lib.hid (HA7.out.below hb8)
  have HB8 := Lib.hid (HB7.out.below hb8)
  have HW8 := Lib.hid (HW7.out.trans (hb8.mono HW7.out.size))
  have HS8 := Lib.hid ((HS7.out.below hb8).mono hb8.size)
  clear hb8 HA7 HB7 HW7 HS7 HT7 HU7
  go_wp2_with fail
  refine (CCF.out A3 c3 _ HS8.out HB8.out.t).mono ?_
  rintro e w9 ⟨hb9, A9, c9, rfl, hs9⟩
  have HA9 := Lib.hid (HA8.out.below hb9)
  have HB9 := Lib.hid (HB8.out.below hb9)
  have HW9 := Lib.hid (HW8.out.trans (hb9.mono HW8.out.size))
  obtain ⟨R, hR⟩ : ∃ R, cutR F b n = R := ⟨_, rfl⟩
  rw [hR] at hs9 HCab HCl HERR ⊢
  have HT9 := Lib.hid hs9
  clear hR hs9 hb9 HA8 HB8 HW8 HS8
  go_wp2_with fail
  refine (CCa.out _ HA9.out.t (by omega)).mono ?_
  rintro e w10 ⟨v10, rfl, hown10, hb10⟩
  obtain ⟨A10, c10, hv10⟩ := own_slice' hown10
  subst hv10
  have HO10 := Lib.hid hown10
  have HB10 := Lib.hid hb10
  have HBB10 := Lib.hid (HB9.out.below hb10)
  clear hown10 hb10
  go_wp2_with (at_builtin; refine wpList_appX HO10.out info_wr Try.underlying24 rfl (by decide) (by rw [flat_length encW_length, HLB.out]) HBB10.out.t.1 (oneCell_encW _) (by unfold maxLen; omega) (by omega) HB10.out.size rfl rfl (by rfl) (by rfl) ?_; intro v11 w11 hown11 hg11 _; obtain ⟨A11, c11, hv11⟩ := own_slice' hown11; subst hv11)
  rw [← flat_append] at hown11
  have hb11 : Below w9.heap.size w9 w11 := HB10.out.grown hg11 HB10.out.size (fun k hk => (HO10.out.lt k hk).1)
  have HA11 := Lib.hid (HA9.out.below hb11)
  have HB11 := Lib.hid (HB9.out.below hb11)
  have HW11 := Lib.hid (HW9.out.trans (hb11.mono HW9.out.size))
  have HT11 := Lib.hid ((HT9.out.below hb11).mono hb11.size)
  have HAB11 := Lib.hid (WrAt.joined hown11 HA11.out.t HB11.out.t)
  clear hown11 hg11 hb11 HA9 HB9 HW9 HT9 HB10 HBB10 HO10
  refine (CSa.out _ HA11.out.t (by omega) HGa.out.x4).mono ?_
  rintro e w' ⟨rfl, rfl⟩
  have hcase : n < 0 ∨ (¬ n < 0 ∧ (Nb : Int) < n) ∨ (0 ≤ n ∧ n ≤ (Nb : Int)) := by omega
  rcases hcase with hn0 | ⟨hn0, hn1⟩ | ⟨hn0, hn1⟩
  · have hE := Lib.hid (HERR.out (.inl hn0))
    go_wp2_with fail
    refine (CCab.out A11 c11 _ _ HA11.out.s HAB11.out).mono ?_
    rintro e w12 ⟨hb12, A12, c12, rfl, hs12⟩
    rw [hE.out]
    clear hs12
    go_wp2_with fail
    go_ret
    exact ⟨rfl, HW11.out.trans (hb12.mono HW11.out.size)⟩
  · have hE := Lib.hid (HERR.out (.inr hn1))
    go_wp2_with fail
    refine (CCab.out A11 c11 _ _ HA11.out.s HAB11.out).mono ?_
    rintro e w12 ⟨hb12, A12, c12, rfl, hs12⟩
    rw [hE.out]
    have HB12 := Lib.hid (HB11.out.below hb12)
    have HW12 := Lib.hid (HW11.out.trans (hb12.mono HW11.out.size))
    clear hs12 hb12
    go_wp2_with fail
    refine (CSb.out _ HB12.out.t (by omega) HGb.out.x4).mono ?_
    rintro e w' ⟨rfl, rfl⟩
    go_wp2_with fail
    go_ret
    exact ⟨rfl, HW12.out⟩
  · obtain ⟨hE1, hE2⟩ := HCab.out hn0 hn1
    have HE1 := Lib.hid hE1
    have HE2 := Lib.hid hE2
    clear hE1 hE2
    have hn2 : ¬ n < 0 := by omega
    have hn3 : ¬ (Nb : Int) < n := by omega
    go_wp2_with fail
    refine (CCab.out A11 c11 _ _ HA11.out.s HAB11.out).mono ?_
    rintro e w12 ⟨hb12, A12, c12, rfl, hs12⟩
    rw [HE1.out] at hs12 ⊢
    rw [HE2.out]
    have HB12 := Lib.hid (HB11.out.below hb12)
    have HW12 := Lib.hid (HW11.out.trans (hb12.mono HW11.out.size))
    have HT12 := Lib.hid ((HT11.out.below hb12).mono hb12.size)
    have HU12 := Lib.hid hs12
    clear hs12 hb12
    go_wp2_with fail
    refine (CSb.out _ HB12.out.t (by omega) HGb.out.x4).mono ?_
    rintro e w' ⟨rfl, rfl⟩
    go_wp2_with fail
    refine (eqimg_same A9 A12 c9 c12 R.1 _ HT12.out HU12.out HCl.out).mono ?_
    rintro e w13 ⟨rfl, hb13⟩
    go_wp2_with fail
    go_ret
    exact ⟨rfl, HW12.out.trans (hb13.mono HW12.out.size)⟩
end Go.Proofs.Ytdmdfpdigoijoaa
