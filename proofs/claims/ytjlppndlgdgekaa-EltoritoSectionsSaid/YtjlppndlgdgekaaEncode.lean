/-
  Encode of the program.
-/
import Derived.Test.YtjlppndlgdgekaaVal
namespace Go.Proofs.Ytjlppndlgdgekaa
open Go.RowKit
set_option linter.unusedVariables false

/-- What Encode answers. -/
def EncR (l : List Img) (w : World) (e : Ending) (w' : World) : Prop := e = .returned (.tuple #[.string (encStr l), .int .i64 (encE l)]) ∧ Below w.heap.size w w'
theorem EncR.no {l : List Img} {w w' : World} {e : Ending} {E : Int} (h : encE l = E) (h0 : E ≠ 0) (he : e = .returned (.tuple #[.string ⟨#[]⟩, .int .i64 E])) (hb : Below w.heap.size w w') : EncR l w e w' :=
  ⟨by rw [encStr_no (by rw [h]; exact h0), h, he], hb⟩
theorem part_first (n : Nat) (x : Img) : partL n 0 x = valL x.plat ++ imgL x := by
  unfold partL
  rw [if_pos rfl]
theorem part_next {n k : Nat} (x : Img) : partL n (k + 1) x = hdrL (kindOf n (k + 1)) x.plat ++ imgL x := by
  unfold partL
  rw [if_neg (by omega)]

set_option maxRecDepth 100000 in
set_option maxHeartbeats 4000000 in
theorem enc_empty (A : Option Addr) (c : Nat) (w : World) : Calls Try.prog 11 #[.slice A 0 c] w (EncR [] w) := by
  go_enter Try.func11, Try.ntmps11
  go_wp2_with fail
  go_ret2
  exact EncR.no (l := []) rfl (by decide) rfl (Below.refl _ _)
set_option maxRecDepth 100000 in
set_option maxHeartbeats 4000000 in
theorem enc_many (A : Option Addr) (c : Nat) (l : List Img) (w : World) (h : 32 < l.length) : Calls Try.prog 11 #[.slice A l.length c] w (EncR l w) := by
  have HE : Hid (encE l = 7) := Lib.hid (by unfold encE; rw [if_neg (by omega), if_pos h])
  have h0 : ((l.length : Int) == 0) = false := by rw [beq_eq_false_iff_ne]; omega
  have h1 : (32 : Int) < (l.length : Int) := by omega
  have h2 : ¬ (l.length = 0) := by omega
  go_enter Try.func11, Try.ntmps11
  go_wp2_with fail
  go_ret2
  exact EncR.no HE.out (by decide) rfl (Below.refl _ _)
set_option maxRecDepth 100000 in
set_option maxHeartbeats 4000000 in
theorem enc_bad (A : Option Addr) (c : Nat) (l : List Img) (w : World) (hs : SlAt w w.heap.size A (flat encI l)) (h0 : 0 < l.length) (h1 : l.length ≤ 32) (h : l.all imgOk = false) : Calls Try.prog 11 #[.slice A l.length c] w (EncR l w) := by
  have HE : Hid (encE l = 2) := Lib.hid (by unfold encE; rw [if_neg (by omega), if_neg (by omega), h]; rfl)
  have C := Lib.hid (anybad_any A c l w hs (by omega))
  rw [h] at C
  have e0 : ((l.length : Int) == 0) = false := by rw [beq_eq_false_iff_ne]; omega
  have e1 : ¬ (32 : Int) < (l.length : Int) := by omega
  have e2 : ¬ (l.length = 0) := by omega
  clear h hs
  go_enter Try.func11, Try.ntmps11
  go_wp2_with fail
  refine C.out.mono ?_
  rintro e w1 ⟨rfl, hb1⟩
  go_wp2_with fail
  go_ret2
  exact EncR.no HE.out (by decide) rfl hb1

theorem plat_bd {p : Int} (h : p = 0 ∨ p = 1 ∨ p = 2 ∨ p = 239) : 0 ≤ p ∧ p ≤ 255 := by omega
theorem one_size (l : List UInt8) (n : Nat) (h : l.length = n) : (⟨l.toArray⟩ : ByteArray).size = n := h

set_option maxRecDepth 100000 in
set_option maxHeartbeats 8000000 in
theorem enc_go (A : Option Addr) (c : Nat) (l : List Img) (w : World) (hs : SlAt w w.heap.size A (flat encI l)) (hc : l.length ≤ c) (hcm : c ≤ maxLen) (h0 : 0 < l.length) (h1 : l.length ≤ 32) (h : l.all imgOk = true) :
    Calls Try.prog 11 #[.slice A l.length c] w (EncR l w) := by
  have HE : Hid (encE l = 0) := Lib.hid (by unfold encE; rw [if_neg (by omega), if_neg (by omega), h]; rfl)
  have C := Lib.hid (anybad_any A c l w hs (by omega))
  rw [h] at C
  have HG : Hid (∀ (k : Nat) x, l[k]? = some x → imgOk x = true) := fun k x hk => List.all_eq_true.1 h x (List.mem_of_getElem? hk)
  obtain ⟨b, off, rfl, hb, hcell⟩ := hs.one (by rw [flat_length encI_length]; omega)
  have HSL := Lib.hid hs
  obtain ⟨x0, hx0⟩ : ∃ x, l[0]? = some x := ⟨l[0], List.getElem?_eq_getElem _⟩
  have HB1 : Hid (bodyUp l 1 = valL x0.plat ++ imgL x0) := Lib.hid (by rw [bodyUp_snoc hx0, part_first]; rfl)
  have CI := Lib.hid (fun w => image_any x0 w (HG.out 0 x0 hx0))
  have hg0 := HG.out 0 x0 hx0
  have HBL : Hid (∀ k, k ≤ l.length → (bodyUp l k).length = 64 * k) := fun k hk => bodyUp_length hk
  have HEN : Hid (encStr l = ⟨(bodyUp l l.length ++ zs (2048 - 64 * l.length)).toArray⟩) := Lib.hid (encStr_ok HE.out)
  have HX0 := Lib.hid hx0
  obtain ⟨len, hlen⟩ : ∃ n, l.length = n := ⟨_, rfl⟩
  have HL := Lib.hid hlen
  rw [hlen] at hc h0 h1 C HBL HEN ⊢
  unfold maxLen at hcm
  have e0 : ((len : Int) == 0) = false := by rw [beq_eq_false_iff_ne]; omega
  have e1 : ¬ (32 : Int) < (len : Int) := by omega
  have e2 : ¬ (len = 0) := by omega
  have e3 : 0 < len := h0
  have h0I : (0 : Int) < (len : Int) := by omega
  have hcI : (1 : Int) ≤ (c : Int) := by omega
  have hlI : (1 : Int) ≤ (len : Int) := by omega
  clear h hs hcell hlen hx0
  obtain ⟨p, m, s, t, lb, bt⟩ := x0
  obtain ⟨hp, _⟩ := imgOk_parts hg0
  obtain ⟨hp0, hp1⟩ := plat_bd hp
  have CV := Lib.hid (fun w => validation_any p w hp0 hp1)
  rw [imV] at CI
  dsimp only at CI HB1
  have hz1 : (⟨(valL p).toArray⟩ : ByteArray).size = 32 := one_size _ _ (formL_length _ _)
  have hz2 : (⟨(imgL ⟨p, m, s, t, lb, bt⟩).toArray⟩ : ByteArray).size = 32 := one_size _ _ (imgL_length _)
  have HAB : Hid ((⟨(valL p).toArray⟩ : ByteArray) ++ ⟨(imgL ⟨p, m, s, t, lb, bt⟩).toArray⟩ = ⟨(bodyUp l 1).toArray⟩) := Lib.hid (by rw [HB1.out, mk_append])
  have hzb : (⟨(bodyUp l 1).toArray⟩ : ByteArray).size = 64 := by rw [one_size _ _ rfl]; exact HBL.out 1 (by omega)
  generalize (⟨(valL p).toArray⟩ : ByteArray) = VA at *
  generalize (⟨(imgL ⟨p, m, s, t, lb, bt⟩).toArray⟩ : ByteArray) = IM at *
  clear hg0 hp
  go_enter Try.func11, Try.ntmps11
  go_wp2_with fail
  refine C.out.mono ?_
  rintro e w1 ⟨rfl, hb1⟩
  go_upto_region 8 with fail
  have bl0 := Bld.new w1
  have hB0 : Below w.heap.size w (w1.alloc (.cells #[.pointer none, .slice none 0 0] 46)) := hb1.alloc hb1.size _
  have hgw : w.heap.size ≤ w1.heap.size := hb1.size
  generalize hW : w1.alloc (.cells #[.pointer none, .slice none 0 0] 46) = W1 at bl0 hB0 ⊢
  clear hW
  generalize w1.heap.size = g at *
  obtain ⟨p0, p1, p2, p3, p4, p5⟩ := img_cells HSL.out rfl HX0.out
  simp only [Nat.zero_mul, Nat.add_zero] at p0 p1 p2 p3 p4 p5
  have hz1' : (VA.size : Int) ≤ 32 := by omega
  have hz2' : (IM.size : Int) ≤ 32 := by omega
  go_cut [29] from 19 to 29 (fun _ wx => Bld wx g (bodyUp l 1) ∧ Below w.heap.size w wx)
  case first =>
    have bl1 := bl0.drew
    refine wp_region_held_drew (S := (fun w' => Below w.heap.size w w')) (by kernel_rfl) (hB0.drew) (fun hHeld => ?_)
    refine wpAnyH_take (i := 0) (oi := ?o21) (v := ?v21) ?hi21 (by kernel_rfl) (by kernel_rfl) (by kernel_rfl) ?hq21 ?hy21 (by assumption) ?hr21
    case hi21 => (simp only [List.getElem?_toArray, List.getElem?_cons_zero]; rfl)
    case hy21 => ((refine .inl ⟨by rfl, ?_⟩); intro w hS; go_simp; (try with_reducible rfl))
    case hq21 => exact fun _ _ _ h => h
    (simp only [Act.put, List.setIfInBounds_toArray, List.set_cons_zero, List.set_cons_succ])
    refine wpAnyH_take (i := 1) (oi := ?o22) (v := ?v22) ?hi22 (by kernel_rfl) (by kernel_rfl) (by kernel_rfl) ?hq22 ?hy22 (by assumption) ?hr22
    case hi22 => (simp only [List.getElem?_toArray, List.getElem?_cons_succ, List.getElem?_cons_zero]; rfl)
    case hy22 => ((refine .inl ⟨by rfl, ?_⟩); intro w hS; go_simp; (try with_reducible rfl))
    case hq22 => exact fun _ _ _ h => h
    (simp only [Act.put, List.setIfInBounds_toArray, List.set_cons_zero, List.set_cons_succ])
    refine wpAnyH_take (i := 2) (oi := ?o23) (v := ?v23) ?hi23 (by kernel_rfl) (by kernel_rfl) (by kernel_rfl) ?hq23 ?hy23 (by assumption) ?hr23
    case hi23 => (simp only [List.getElem?_toArray, List.getElem?_cons_succ, List.getElem?_cons_zero]; rfl)
    case hy23 => ((refine .inl ⟨by rfl, ?_⟩); intro w hS; go_simp; (try with_reducible rfl))
    case hq23 => exact fun _ _ _ h => h
    (simp only [Act.put, List.setIfInBounds_toArray, List.set_cons_zero, List.set_cons_succ])
    refine wpAnyH_take (i := 3) (oi := ?o24) (v := ?v24) ?hi24 (by kernel_rfl) (by kernel_rfl) (by kernel_rfl) ?hq24 ?hy24 (by assumption) ?hr24
    case hi24 => (simp only [List.getElem?_toArray, List.getElem?_cons_succ, List.getElem?_cons_zero]; rfl)
    case hy24 => ((refine .inl ⟨by rfl, ?_⟩); intro w hS; have q0 := (Below.cell hS (p := ⟨b, off, none⟩) hb).trans p0; have q1 := (Below.cell hS (p := ⟨b, off + 1, none⟩) hb).trans p1; have q2 := (Below.cell hS (p := ⟨b, off + 2, none⟩) hb).trans p2; have q3 := (Below.cell hS (p := ⟨b, off + 3, none⟩) hb).trans p3; have q4 := (Below.cell hS (p := ⟨b, off + 4, none⟩) hb).trans p4; have q5 := (Below.cell hS (p := ⟨b, off + 5, none⟩) hb).trans p5; go_simp; (try with_reducible rfl))
    case hq24 => exact fun _ _ _ h => h
    (simp only [Act.put, List.setIfInBounds_toArray, List.set_cons_zero, List.set_cons_succ])
    refine wpAnyH_take (i := 5) (oi := ?o25) (v := ?v25) ?hi25 (by kernel_rfl) (by kernel_rfl) (by kernel_rfl) ?hq25 ?hy25 (by assumption) ?hr25
    case hi25 => (simp only [List.getElem?_toArray, List.getElem?_cons_succ, List.getElem?_cons_zero]; rfl)
    case hy25 => ((refine .inl ⟨by rfl, ?_⟩); intro w hS; go_simp; (try with_reducible rfl))
    case hq25 => exact fun _ _ _ h => h
    (simp only [Act.put, List.setIfInBounds_toArray, List.set_cons_zero, List.set_cons_succ])
    refine wpAnyH_take (i := 6) (oi := ?o26) (v := ?v26) ?hi26 (by kernel_rfl) (by kernel_rfl) (by kernel_rfl) ?hq26 ?hy26 (by assumption) ?hr26
    case hi26 => (simp only [List.getElem?_toArray, List.getElem?_cons_succ, List.getElem?_cons_zero]; rfl)
    case hy26 => ((refine .inl ⟨by rfl, ?_⟩); intro w hS; go_simp; (try with_reducible rfl))
    case hq26 => exact fun _ _ _ h => h
    (simp only [Act.put, List.setIfInBounds_toArray, List.set_cons_zero, List.set_cons_succ])
    refine wpAnyH_take (i := 7) (oi := ?o27) (v := ?v27) ?hi27 (by kernel_rfl) (by kernel_rfl) (by kernel_rfl) ?hq27 ?hy27 (by assumption) ?hr27
    case hi27 => (simp only [List.getElem?_toArray, List.getElem?_cons_succ, List.getElem?_cons_zero]; rfl)
    case hy27 => ((refine .inl ⟨by rfl, ?_⟩); intro w hS; have q0 := (Below.cell hS (p := ⟨b, off, none⟩) hb).trans p0; have q1 := (Below.cell hS (p := ⟨b, off + 1, none⟩) hb).trans p1; have q2 := (Below.cell hS (p := ⟨b, off + 2, none⟩) hb).trans p2; have q3 := (Below.cell hS (p := ⟨b, off + 3, none⟩) hb).trans p3; have q4 := (Below.cell hS (p := ⟨b, off + 4, none⟩) hb).trans p4; have q5 := (Below.cell hS (p := ⟨b, off + 5, none⟩) hb).trans p5; go_simp; (try with_reducible rfl))
    case hq27 => exact fun _ _ _ h => h
    (simp only [Act.put, List.setIfInBounds_toArray, List.set_cons_zero, List.set_cons_succ])
    refine wpAnyH_ready (rs := [4]) (by kernel_rfl) (by simp) ?_
    refine AllReadyH.cons rfl (fun K hK => ?_) AllReadyH.nil
    go_simp
    go_wp2_with ((go_at_call 23; refine (CV.out _).mono ?_; rintro e w4 ⟨rfl, hb4⟩; have bl4 := Bld.below bl1 hb4))
    refine hK.out _ _ (belowC hb4 hHeld) (fun hHeld => ?_)
    clear hK K
    (try simp only [Act.put, List.setIfInBounds_toArray, List.set_cons_zero, List.set_cons_succ])
    refine wpAnyH_ready (rs := [8]) (by kernel_rfl) (by simp) ?_
    refine AllReadyH.cons rfl (fun K hK => ?_) AllReadyH.nil
    go_simp
    go_wp2_with ((go_at_call 24; refine (CI.out _).mono ?_; rintro e w5 ⟨rfl, hb5⟩; have bl5 := Bld.below bl4 hb5))
    refine hK.out _ _ (belowC hb5 hHeld) (fun hHeld => ?_)
    clear hK K
    (try simp only [Act.put, List.setIfInBounds_toArray, List.set_cons_zero, List.set_cons_succ])
    refine wpAnyH_take (i := 9) (oi := ?o28) (v := ?v28) ?hi28 (by kernel_rfl) (by kernel_rfl) (by kernel_rfl) ?hq28 ?hy28 (by assumption) ?hr28
    case hi28 => (simp only [List.getElem?_toArray, List.getElem?_cons_succ, List.getElem?_cons_zero]; rfl)
    case hy28 => ((refine .inl ⟨by rfl, ?_⟩); intro w hS; go_simp; (try with_reducible rfl))
    case hq28 => exact fun _ _ _ h => h
    (simp only [Act.put, List.setIfInBounds_toArray, List.set_cons_zero, List.set_cons_succ])
    refine wpAnyH_ready (rs := [10]) (by kernel_rfl) (by simp) ?_
    refine AllReadyH.cons rfl (fun K hK => ?_) AllReadyH.nil
    go_simp
    go_wp2_with ((rw [HAB.out]; go_at_call 22; refine (bwrite_any g _ _ _ bl5 (by rw [hzb]; simp)).mono ?_; rintro e w6 ⟨rfl, bl6, hk6⟩))
    refine hK.out _ _ (hk6.base hHeld hgw) (fun hHeld => ?_)
    clear hK K
    (try simp only [Act.put, List.setIfInBounds_toArray, List.set_cons_zero, List.set_cons_succ])
    refine wpAnyH_done (by kernel_rfl) ?_ _
    go_wp2_with fail
    go_meet
    exact ⟨by simpa using bl6, hHeld⟩
  case rest =>
    clear bl0 hB0 hb1 p0 p1 p2 p3 p4 p5
    obtain ⟨bl1, hb1⟩ := hcut
    go_upto_region 9 with fail
    go_cut [31, 32, 33] from 30 to 33 (fun sl n i wx => ∃ A2, sl = .slice A2 (len - 1) (c - 1) ∧ (1 < len → A2 = some ⟨b, off + 6, none⟩) ∧ n = .int .i64 ((len - 1 : Nat) : Int) ∧ i = .int .i64 0 ∧ wx = wc)
    case first =>
      by_cases hc1 : c = 1
      · have hc1I : (c : Int) = 1 := by omega
        have hl1 : ¬ 1 < len := by omega
        have hc0 : c - 1 = 0 := by omega
        go_wp2_with fail
        go_meet
        exact ⟨some ⟨b, off, none⟩, by rw [hc0], fun h => absurd h hl1, rfl, rfl, rfl⟩
      · have hc1I : ¬ (c : Int) = 1 := by omega
        go_wp2_with fail
        go_meet
        exact ⟨_, rfl, fun _ => rfl, rfl, rfl, rfl⟩
    case rest =>
      obtain ⟨A2, rfl, hA2, rfl, rfl, rfl⟩ := hcut
      obtain ⟨M, hM⟩ : ∃ M, len - 1 = M := ⟨_, rfl⟩
      rw [hM]
      have hMl : len = M + 1 := by omega
      have HA2 : Hid (0 < M → A2 = some ⟨b, off + 6, none⟩) := fun h => hA2 (by omega)
      have HMl := Lib.hid hMl
      have hM1 : M < len := by omega
      have hM2 : len ≤ M + 1 := by omega
      clear hA2 hM hMl
      go_wp2_with fail
      go_loopw [33] (fun i' wr => ∃ i : Nat, i ≤ M ∧ i' = .int .i64 i ∧ Bld wr g (bodyUp l (i + 1)) ∧ Below w.heap.size w wr) (fun i' _ => M - (intOf i').toNat)
      case atStart => exact ⟨0, by omega, rfl, bl1, hb1⟩
      case round =>
        clear bl1 hb1
        obtain ⟨i, hi, rfl, bl1, hb1⟩ := hrel
        obtain ⟨wo, rfl⟩ : ∃ wo : World, wo = wr := ⟨_, rfl⟩
        by_cases hlt : i < M
        · have hA := HA2.out (by omega)
          subst hA
          obtain ⟨x, hx⟩ : ∃ x, l[i + 1]? = some x := ⟨l[i + 1]'(by rw [HL.out]; omega), List.getElem?_eq_getElem _⟩
          have hgx := HG.out (i + 1) x hx
          have CI2 := Lib.hid (fun w => image_any x w hgx)
          have HB2 : Hid (bodyUp l (i + 1 + 1) = bodyUp l (i + 1) ++ (hdrL (kindOf len (i + 1)) x.plat ++ imgL x)) := Lib.hid (by rw [bodyUp_snoc hx, HL.out, part_next])
          obtain ⟨p0, p1, p2, p3, p4, p5⟩ := img_cells (HSL.out.below hb1) rfl hx
          have eo : off + (i + 1) * 6 = off + 6 + i * 6 := by omega
          rw [eo] at p0 p1 p2 p3 p4 p5
          obtain ⟨p, m, s, t, lb, bt⟩ := x
          obtain ⟨hp, _⟩ := imgOk_parts hgx
          obtain ⟨hp0, hp1⟩ := plat_bd hp
          rw [imV] at CI2
          dsimp only at CI2 HB2 p0 p1 p2 p3 p4 p5
          have hltI : (i : Int) < (M : Int) := by omega
          have h0i : (0 : Int) ≤ (i : Int) := by omega
          have hbw : b < wo.heap.size := Nat.lt_of_lt_of_le hb hb1.size
          have hbl1 := HBL.out (i + 1) (by omega)
          obtain ⟨K, hK⟩ : ∃ K, kindOf len (i + 1) = K := ⟨_, rfl⟩
          have hK2 : (i + 2 = len ∧ K = 145) ∨ (i + 2 ≠ len ∧ K = 144) := by
            rw [← hK]
            unfold kindOf
            split
            · exact .inl ⟨by omega, rfl⟩
            · exact .inr ⟨by omega, rfl⟩
          have CN1 := Lib.hid (fun w => number_any K 1 w (by omega))
          have CN2 := Lib.hid (fun w => number_any p 1 w (by omega))
          have CN3 := Lib.hid (fun w => number_any 1 2 w (by omega))
          rw [str1 (by omega) (by omega)] at CN1
          rw [str1 hp0 hp1] at CN2
          rw [str2 (by omega) (by omega)] at CN3
          have CE := Lib.hid (fun g w h => entry_any [⟨(leB K 1).toArray⟩, ⟨(leB p 1).toArray⟩, ⟨(leB 1 2).toArray⟩] g 3 w h (by simp) (hdrP K p) (by simp [hdrP]) (by rw [hdrP_length]; omega) (by simp))
          rw [hdrP_length] at CE
          have HF : Hid (hdrP K p ++ zs (32 - 4) = hdrL K p) := rfl
          rw [HF.out] at CE
          rw [hK] at HB2
          have hzh : (⟨(hdrL K p).toArray⟩ : ByteArray).size = 32 := one_size _ _ (hdrL_length _ _)
          have hzi : (⟨(imgL ⟨p, m, s, t, lb, bt⟩).toArray⟩ : ByteArray).size = 32 := one_size _ _ (imgL_length _)
          have hdh : (⟨(hdrL K p).toArray⟩ : ByteArray).data.toList = hdrL K p := rfl
          have hdi : (⟨(imgL ⟨p, m, s, t, lb, bt⟩).toArray⟩ : ByteArray).data.toList = imgL ⟨p, m, s, t, lb, bt⟩ := rfl
          have hlh : (hdrL K p).length = 32 := hdrL_length _ _
          generalize (⟨(leB K 1).toArray⟩ : ByteArray) = S1 at *
          generalize (⟨(leB p 1).toArray⟩ : ByteArray) = S2 at *
          generalize (⟨(leB 1 2).toArray⟩ : ByteArray) = S3 at *
          generalize (⟨(hdrL K p).toArray⟩ : ByteArray) = SH at *
          generalize (⟨(imgL ⟨p, m, s, t, lb, bt⟩).toArray⟩ : ByteArray) = SI at *
          have HDH := Lib.hid hdh
          have HDI := Lib.hid hdi
          have HKK := Lib.hid hK
          have hgo : g < wo.heap.size := bl1.lt
          clear hx hgx hp hK hdh hdi
          go_upto_if 42 with fail
          have hr1 : RowAt (wo.alloc (.cells #[.int .i64 p, .int .i64 m, .int .i64 s, .int .i64 t, .int .i64 lb, .bool bt] 34)) wo.heap.size 34 #[.int .i64 p, .int .i64 m, .int .i64 s, .int .i64 t, .int .i64 lb, .bool bt] := RowAt.new _ _ _
          have hB1 := hb1.alloc hb1.size (.cells #[.int .i64 p, .int .i64 m, .int .i64 s, .int .i64 t, .int .i64 lb, .bool bt] 34)
          have bl2 := bl1.below ((Below.refl _ wo).alloc (Nat.le_refl _) (.cells #[.int .i64 p, .int .i64 m, .int .i64 s, .int .i64 t, .int .i64 lb, .bool bt] 34))
          generalize (wo.alloc (.cells #[.int .i64 p, .int .i64 m, .int .i64 s, .int .i64 t, .int .i64 lb, .bool bt] 34)) = W2 at hr1 hB1 bl2 ⊢
          have hne : wo.heap.size ≠ g := by omega
          go_cut [7] from 42 to 42 (fun k wx => k = .int .i64 K ∧ wx = W2)
          case first =>
            rcases hK2 with ⟨h1, rfl⟩ | ⟨h1, rfl⟩
            · have h1' : ((i : Int) + 2 == (len : Int)) = true := by rw [beq_iff_eq]; omega
              clear h1
              go_wp2_with fail
              go_meet
              exact ⟨rfl, rfl⟩
            · have h1' : ((i : Int) + 2 == (len : Int)) = false := by rw [beq_eq_false_iff_ne]; omega
              clear h1
              go_wp2_with fail
              go_meet
              exact ⟨rfl, rfl⟩
          case rest =>
            obtain ⟨rfl, rfl⟩ := hcut
            clear hK2 p0 p1 p2 p3 p4 p5
            go_upto_region 15 with fail
            have bl3 := bl2.drew
            go_cut [51] from 43 to 51 (fun _ wx => Bld wx g (bodyUp l (i + 1) ++ hdrL K p) ∧ RowAt wx wo.heap.size 34 #[.int .i64 p, .int .i64 m, .int .i64 s, .int .i64 t, .int .i64 lb, .bool bt] ∧ Below w.heap.size w wx)
            case first =>
              refine wp_region_held_drew (S := (fun w' => RowAt w' wo.heap.size 34 #[.int .i64 p, .int .i64 m, .int .i64 s, .int .i64 t, .int .i64 lb, .bool bt] ∧ Below w.heap.size w w')) (by kernel_rfl) (⟨hr1, hB1.drew⟩) (fun hHeld => ?_)
              refine wpAnyH_take (i := 0) (oi := ?o29) (v := ?v29) ?hi29 (by kernel_rfl) (by kernel_rfl) (by kernel_rfl) ?hq29 ?hy29 (by assumption) ?hr29
              case hi29 => (simp only [List.getElem?_toArray, List.getElem?_cons_zero]; rfl)
              case hy29 => ((refine .inl ⟨by rfl, ?_⟩); intro w hS; go_simp; (try with_reducible rfl))
              case hq29 => exact fun _ _ _ h => h
              (simp only [Act.put, List.setIfInBounds_toArray, List.set_cons_zero, List.set_cons_succ])
              refine wpAnyH_take (i := 2) (oi := ?o30) (v := ?v30) ?hi30 (by kernel_rfl) (by kernel_rfl) (by kernel_rfl) ?hq30 ?hy30 (by assumption) ?hr30
              case hi30 => (simp only [List.getElem?_toArray, List.getElem?_cons_succ, List.getElem?_cons_zero]; rfl)
              case hy30 => ((refine .inl ⟨by rfl, ?_⟩); intro w hS; go_simp; (try with_reducible rfl))
              case hq30 => exact fun _ _ _ h => h
              (simp only [Act.put, List.setIfInBounds_toArray, List.set_cons_zero, List.set_cons_succ])
              refine wpAnyH_take (i := 3) (oi := ?o31) (v := ?v31) ?hi31 (by kernel_rfl) (by kernel_rfl) (by kernel_rfl) ?hq31 ?hy31 (by assumption) ?hr31
              case hi31 => (simp only [List.getElem?_toArray, List.getElem?_cons_succ, List.getElem?_cons_zero]; rfl)
              case hy31 => ((refine .inl ⟨by rfl, ?_⟩); intro w hS; have q := (And.left hS).cell; go_simp; (try with_reducible rfl))
              case hq31 => exact fun _ _ _ h => h
              (simp only [Act.put, List.setIfInBounds_toArray, List.set_cons_zero, List.set_cons_succ])
              refine wpAnyH_ready (rs := [1]) (by kernel_rfl) (by simp) ?_
              refine AllReadyH.cons rfl (fun K hK => ?_) AllReadyH.nil
              go_simp
              go_wp2_with ((go_at_call 26; refine (CN1.out _).mono ?_; rintro e w4 ⟨rfl, hb4⟩; have bl4 := Bld.below bl3 hb4))
              refine hK.out _ _ (⟨hHeld.1.below hb4 hHeld.1.lt, belowC hb4 hHeld.2⟩) (fun hHeld => ?_)
              clear hK K
              (try simp only [Act.put, List.setIfInBounds_toArray, List.set_cons_zero, List.set_cons_succ])
              refine wpAnyH_ready (rs := [4]) (by kernel_rfl) (by simp) ?_
              refine AllReadyH.cons rfl (fun K hK => ?_) AllReadyH.nil
              go_simp
              go_wp2_with ((go_at_call 26; refine (CN2.out _).mono ?_; rintro e w5 ⟨rfl, hb5⟩; have bl5 := Bld.below bl4 hb5))
              refine hK.out _ _ (⟨hHeld.1.below hb5 hHeld.1.lt, belowC hb5 hHeld.2⟩) (fun hHeld => ?_)
              clear hK K
              (try simp only [Act.put, List.setIfInBounds_toArray, List.set_cons_zero, List.set_cons_succ])
              refine wpAnyH_ready (rs := [5]) (by kernel_rfl) (by simp) ?_
              refine AllReadyH.cons rfl (fun K hK => ?_) AllReadyH.nil
              go_simp
              go_wp2_with ((go_at_call 26; refine (CN3.out _).mono ?_; rintro e w6 ⟨rfl, hb6⟩; have bl6 := Bld.below bl5 hb6))
              refine hK.out _ _ (⟨hHeld.1.below hb6 hHeld.1.lt, belowC hb6 hHeld.2⟩) (fun hHeld => ?_)
              clear hK K
              (try simp only [Act.put, List.setIfInBounds_toArray, List.set_cons_zero, List.set_cons_succ])
              refine wpAnyH_ready (rs := [6]) (by kernel_rfl) (by simp) ?_
              refine AllReadyH.cons rfl (fun K hK => ?_) AllReadyH.nil
              go_simp
              refine hK.out _ _ (⟨hHeld.1.alloc _, hHeld.2.alloc hHeld.2.size _⟩) (fun hHeld => ?_)
              clear hK K
              (try simp only [Act.put, List.setIfInBounds_toArray, List.set_cons_zero, List.set_cons_succ])
              refine wpAnyH_ready (rs := [7]) (by kernel_rfl) (by simp) ?_
              refine AllReadyH.cons rfl (fun K hK => ?_) AllReadyH.nil
              go_simp
              go_wp2_with ((go_at_call 25; refine (CE.out _ _ (RowAt.new _ _ _)).mono ?_; rintro e w8 ⟨rfl, hb8⟩; have bl8 := Bld.below (bl6.below ((Below.refl _ w6).alloc (Nat.le_refl _) _)) hb8))
              refine hK.out _ _ (⟨hHeld.1.below hb8 hHeld.1.lt, belowC hb8 hHeld.2⟩) (fun hHeld => ?_)
              clear hK K
              (try simp only [Act.put, List.setIfInBounds_toArray, List.set_cons_zero, List.set_cons_succ])
              refine wpAnyH_ready (rs := [8]) (by kernel_rfl) (by simp) ?_
              refine AllReadyH.cons rfl (fun K hK => ?_) AllReadyH.nil
              go_simp
              go_wp2_with ((go_at_call 22; refine (bwrite_any g _ _ _ bl8 (by rw [hzh, hbl1]; omega)).mono ?_; rintro e w7 ⟨rfl, bl7, hk7⟩))
              refine hK.out _ _ (⟨hHeld.1.keptB hk7 hne (by decide), hk7.base hHeld.2 hgw⟩) (fun hHeld => ?_)
              clear hK K
              (try simp only [Act.put, List.setIfInBounds_toArray, List.set_cons_zero, List.set_cons_succ])
              refine wpAnyH_done (by kernel_rfl) ?_ _
              go_wp2_with fail
              go_meet
              exact ⟨by rw [← HDH.out]; exact bl7, hHeld⟩
            case rest =>
              clear bl1 bl2 bl3 hr1 hB1 hb1
              obtain ⟨bl4, hr4, hb4⟩ := hcut
              have q4 := hr4.cell
              go_wp2_with fail
              refine (CI2.out _).mono ?_
              rintro e w5 ⟨rfl, hb5⟩
              have bl5 := bl4.below hb5
              have hB5 := belowC hb5 hb4
              go_wp2_with fail
              refine (bwrite_any g _ _ _ bl5 (by rw [hzi, List.length_append, hbl1, hlh]; omega)).mono ?_
              rintro e w6 ⟨rfl, bl6, hk6⟩
              rw [HDI.out, List.append_assoc, ← HB2.out] at bl6
              have hB6 := hk6.base hB5 hgw
              go_wp2_with fail
              go_roundw
              case rel => exact ⟨i + 1, by omega, by go_num, bl6, hB6⟩
              case measure => simp [intOf]; omega
        · obtain rfl : i = M := by omega
          have hge : ¬ (i : Int) < (i : Int) := by omega
          have hbl := HBL.out (i + 1) (by omega)
          rw [HMl.out] at HEN
          have hn : (2048 : Int) - ((64 * (i + 1) : Nat) : Int) = ((2048 - 64 * (i + 1) : Nat) : Int) := by omega
          obtain ⟨n, hnn⟩ : ∃ n, 2048 - 64 * (i + 1) = n := ⟨_, rfl⟩
          rw [hnn] at hn HEN
          have CZ := Lib.hid (fun w => zeros_any n w (by omega))
          have hzz : (⟨(zs n).toArray⟩ : ByteArray).size = n := one_size _ _ (zs_length n)
          have HDZ : Hid ((⟨(zs n).toArray⟩ : ByteArray).data.toList = zs n) := rfl
          obtain ⟨L, hL⟩ : ∃ L, (bodyUp l (i + 1)).length = L := ⟨_, rfl⟩
          have e5 : (2048 : Int) - (L : Int) = (n : Int) := by rw [← hL, hbl]; exact hn
          have e6 : IntKind.i64.wrap ((2048 : Int) - (L : Int)) = (n : Int) := by rw [e5]; exact IntWalk.i64_in _ (by omega)
          generalize (⟨(zs n).toArray⟩ : ByteArray) = Z at *
          have hL64 : L ≤ 2048 := by omega
          clear hn hnn
          go_wp2_with fail
          refine (blen_any g _ _ bl1).mono ?_
          rintro e w2 ⟨rfl, rfl⟩
          rw [hL]
          go_wp2_with fail
          refine (CZ.out _).mono ?_
          rintro e w3 ⟨rfl, hb3⟩
          have bl3 := bl1.below hb3
          have hB3 := belowC hb3 hb1
          go_wp2_with fail
          refine (bwrite_any g _ _ _ bl3 (by rw [hzz, hL]; omega)).mono ?_
          rintro e w4 ⟨rfl, bl4, hk4⟩
          have hB4 := hk4.base hB3 hgw
          go_wp2_with fail
          refine (bstring_any g _ _ bl4).mono ?_
          rintro e w5 ⟨rfl, hk5⟩
          have hB5 := hk5.base hB4 hgw
          go_wp2_with fail
          go_ret2
          refine ⟨?_, hB5⟩
          rw [HE.out, HEN.out]
          first | rfl | (rw [HDZ.out]; rfl)

theorem encode_any (A : Option Addr) (c : Nat) (l : List Img) (w : World) (hs : SlAt w w.heap.size A (flat encI l)) (hc : l.length ≤ c) (hcm : c ≤ maxLen) :
    Calls Try.prog 11 #[.slice A l.length c] w (EncR l w) := by
  rcases encE_cases l with ⟨h, _⟩ | ⟨h, _⟩ | ⟨h0, h1, h2, _⟩ | ⟨h0, h1, h2, _⟩
  · obtain rfl : l = [] := List.eq_nil_of_length_eq_zero h
    exact enc_empty A c w
  · exact enc_many A c l w h
  · exact enc_bad A c l w hs h0 h1 h2
  · exact enc_go A c l w hs hc hcm h0 h1 h2
end Go.Proofs.Ytjlppndlgdgekaa
