/-
  Encode of the reference.
-/
import Derived.Test.YtjlppndlgdgekaaREnc
import Derived.Test.YtjlppndlgdgekaaEncode
namespace Go.Proofs.Ytjlppndlgdgekaa
open Go.RowKit
set_option linter.unusedVariables false

set_option maxRecDepth 100000 in
theorem renc_empty (A : Option Addr) (c : Nat) (w : World) : Calls Try.prog 12 #[.slice A 0 c] w (EncR [] w) := by
  go_enter Try.func12, Try.ntmps12
  go_wp2_with fail
  go_ret2
  exact EncR.no (l := []) rfl (by decide) rfl (Below.refl _ _)
set_option maxRecDepth 100000 in
theorem renc_many (A : Option Addr) (c : Nat) (l : List Img) (w : World) (h : 32 < l.length) : Calls Try.prog 12 #[.slice A l.length c] w (EncR l w) := by
  have HE : Hid (encE l = 7) := Lib.hid (by unfold encE; rw [if_neg (by omega), if_pos h])
  have h0 : ((l.length : Int) == 0) = false := by rw [beq_eq_false_iff_ne]; omega
  have h1 : (32 : Int) < (l.length : Int) := by omega
  have h2 : ¬ (l.length = 0) := by omega
  go_enter Try.func12, Try.ntmps12
  go_wp2_with fail
  go_ret2
  exact EncR.no HE.out (by decide) rfl (Below.refl _ _)
def headL (p : Int) : List UInt8 := [1] ++ leB p 1 ++ [0, 0] ++ (nameL ++ zs 14)
theorem headL_length (p : Int) : (headL p).length = 28 := by simp [headL, leB_length, zs_length, nameL]
theorem form_head (p S : Int) : headL p ++ leB S 2 ++ [85, 170] = formL p S := by simp [headL, formL]
theorem leB12 : leB 1 2 = [1, 0] := rfl
theorem leB02 : leB 0 2 = [0, 0] := rfl

set_option maxRecDepth 100000 in
set_option maxHeartbeats 16000000 in
theorem renc_go (A : Option Addr) (c : Nat) (l : List Img) (w : World) (hs : SlAt w w.heap.size A (flat encI l)) (h0 : 0 < l.length) (h1 : l.length ≤ 32) :
    Calls Try.prog 12 #[.slice A l.length c] w (EncR l w) := by
  obtain ⟨b, off, rfl, hb, hcell⟩ := hs.one (by rw [flat_length encI_length]; omega)
  have HSL := Lib.hid hs
  have HBL : Hid (∀ k, k ≤ l.length → (bodyUp l k).length = 64 * k) := fun k hk => bodyUp_length hk
  obtain ⟨len, hlen⟩ : ∃ n, l.length = n := ⟨_, rfl⟩
  have HL := Lib.hid hlen
  rw [hlen] at h0 h1 HBL ⊢
  have e0 : ((len : Int) == 0) = false := by rw [beq_eq_false_iff_ne]; omega
  have e1 : ¬ (32 : Int) < (len : Int) := by omega
  have e2 : ¬ (len = 0) := by omega
  have h0I : (0 : Int) < (len : Int) := by omega
  clear hs hcell hlen
  go_enter Try.func12, Try.ntmps12
  go_wp2_with fail
  go_loopw [4] (fun i wr => ∃ k : Nat, k ≤ len ∧ i = .int .i64 k ∧ Hid (∀ j x, j < k → l[j]? = some x → imgOk x = true) ∧ Below w.heap.size w wr) (fun i _ => len - (intOf i).toNat)
  case atStart => exact ⟨0, by omega, rfl, Lib.hid (fun j x hj => absurd hj (by omega)), Below.refl _ _⟩
  case round =>
    obtain ⟨k, hk, rfl, HG, hbel⟩ := hrel
    by_cases hlt : k < len
    · obtain ⟨x, hx⟩ : ∃ x, l[k]? = some x := ⟨l[k]'(by rw [HL.out]; exact hlt), List.getElem?_eq_getElem _⟩
      have HX := Lib.hid hx
      obtain ⟨p0, p1, p2, p3, p4, p5⟩ := img_cells (HSL.out.below hbel) rfl hx
      have CR := Lib.hid (fun w => rvalid_any x w)
      have hltI : (k : Int) < (len : Int) := by omega
      have h0k : (0 : Int) ≤ (k : Int) := by omega
      cases hok : imgOk x with
      | true =>
        have HG1 : Hid (∀ j y, j < k + 1 → l[j]? = some y → imgOk y = true) := Lib.hid (fun j y hj hy => by
          rcases Nat.lt_or_ge j k with h | h
          · exact HG.out j y h hy
          · obtain rfl : j = k := by omega
            rw [hx] at hy
            injection hy with hy
            rw [← hy]; exact hok)
        rw [hok] at CR
        obtain ⟨ip, im, ig, is, il, ib⟩ := x
        dsimp only [imV] at CR p0 p1 p2 p3 p4 p5
        clear hx hok HG
        go_wp2_with fail
        refine (CR.out _).mono ?_
        rintro e w1 ⟨rfl, hb1⟩
        go_wp2_with fail
        go_roundw
        case rel => exact ⟨k + 1, by omega, by go_num, HG1, hbel.trans (hb1.mono hbel.size)⟩
        case measure => simp [intOf]; omega
      | false =>
        have HE : Hid (encE l = 2) := Lib.hid (by
          have : l.all imgOk = false := by
            rw [List.all_eq_false]
            exact ⟨x, List.mem_of_getElem? hx, by rw [hok]; simp⟩
          unfold encE; rw [if_neg (by rw [HL.out]; omega), if_neg (by rw [HL.out]; omega), this]; rfl)
        rw [hok] at CR
        obtain ⟨ip, im, ig, is, il, ib⟩ := x
        dsimp only [imV] at CR p0 p1 p2 p3 p4 p5
        clear hx hok HG
        go_wp2_with fail
        refine (CR.out _).mono ?_
        rintro e w1 ⟨rfl, hb1⟩
        go_wp2_with fail
        go_ret2
        exact EncR.no HE.out (by decide) rfl (hbel.trans (hb1.mono hbel.size))
    · obtain rfl : k = len := by omega
      have hge : ¬ (k : Int) < (k : Int) := by omega
      have hall : l.all imgOk = true := List.all_eq_true.2 fun x hx => by
        obtain ⟨j, hj⟩ := List.getElem?_of_mem hx
        exact HG.out j x (by rw [← HL.out]; exact (List.getElem?_eq_some_iff.1 hj).1) hj
      have HE : Hid (encE l = 0) := Lib.hid (by unfold encE; rw [if_neg (by rw [HL.out]; omega), if_neg (by rw [HL.out]; omega), hall]; rfl)
      have HG1 : Hid (∀ (k : Nat) x, l[k]? = some x → imgOk x = true) := Lib.hid (fun k x hk => List.all_eq_true.1 hall x (List.mem_of_getElem? hk))
      have HEN : Hid (encStr l = ⟨(bodyUp l k ++ zs (2048 - 64 * k)).toArray⟩) := Lib.hid (by rw [encStr_ok HE.out]; unfold encL; rw [HL.out])
      obtain ⟨x0, hx0⟩ : ∃ x, l[0]? = some x := ⟨l[0]'(by rw [HL.out]; omega), List.getElem?_eq_getElem _⟩
      have HX0 := Lib.hid hx0
      have HB1 : Hid (bodyUp l 1 = valL x0.plat ++ imgL x0) := Lib.hid (by rw [bodyUp_snoc hx0, part_first]; rfl)
      have CI := Lib.hid (fun w => rimage_any x0 w (HG1.out 0 x0 hx0))
      have hg0 := HG1.out 0 x0 hx0
      clear hx0 hall HG
      obtain ⟨p, m, s, t, lb, bt⟩ := x0
      obtain ⟨hp, _⟩ := imgOk_parts hg0
      obtain ⟨hp0, hp1⟩ := plat_bd hp
      rw [imV] at CI
      dsimp only at CI HB1
      obtain ⟨pb, hpb, -⟩ := byte_ex hp0 hp1
      have CZ := Lib.hid (fun w => rzeros_any 14 w (by omega))
      have HHD : Hid ((⟨#[1, pb, 0, 0]⟩ : ByteArray) ++ ⟨#[77, 65, 83, 84, 69, 82, 68, 73, 83, 67]⟩ ++ ⟨(zs 14).toArray⟩ = ⟨(headL p).toArray⟩) := Lib.hid (by
        rw [show (⟨#[1, pb, 0, 0]⟩ : ByteArray) = ⟨[1, pb, 0, 0].toArray⟩ from rfl, show (⟨#[77, 65, 83, 84, 69, 82, 68, 73, 83, 67]⟩ : ByteArray) = ⟨nameL.toArray⟩ from rfl, mk_append, mk_append]
        unfold headL
        rw [leB1 p pb hpb]
        simp)
      have HSM : Hid ((⟨(headL p).toArray⟩ : ByteArray) ++ ⟨#[0, 0]⟩ ++ ⟨#[85, 170]⟩ = ⟨(formL p 0).toArray⟩) := Lib.hid (by
        rw [show (⟨#[0, 0]⟩ : ByteArray) = ⟨(leB 0 2).toArray⟩ from rfl, show (⟨#[85, 170]⟩ : ByteArray) = ⟨[85, 170].toArray⟩ from rfl, mk_append, mk_append, form_head])
      have CS := Lib.hid (fun w => rsum_any (⟨(headL p).toArray⟩ ++ ⟨#[0, 0]⟩ ++ ⟨#[85, 170]⟩) w (by rw [HSM.out, one_size _ _ (formL_length _ _)]; omega))
      rw [show (((⟨(headL p).toArray⟩ : ByteArray) ++ ⟨#[0, 0]⟩ ++ ⟨#[85, 170]⟩).data.toList) = formL p 0 by rw [HSM.out]] at CS
      obtain ⟨s0, s1⟩ := sumS_bd (formL p 0)
      obtain ⟨v0, v1⟩ := valSum_bd p
      have CN := Lib.hid (fun w => rnumber_any (valSum p) 2 w (by omega))
      rw [str2 v0 v1] at CN
      have HB2 : Hid ((⟨(headL p).toArray⟩ : ByteArray) ++ ⟨(leB (valSum p) 2).toArray⟩ ++ ⟨#[85, 170]⟩ ++ ⟨(imgL ⟨p, m, s, t, lb, bt⟩).toArray⟩ = ⟨(bodyUp l 1).toArray⟩) := Lib.hid (by
        rw [show (⟨#[85, 170]⟩ : ByteArray) = ⟨[85, 170].toArray⟩ from rfl, mk_append, mk_append, mk_append, form_head, HB1.out]
        rfl)
      have HVS : Hid ((65536 - sumS (formL p 0)).tmod 65536 = valSum p) := Lib.hid (by
        rw [Int.tmod_eq_emod_of_nonneg (by omega)]
        rfl)
      have ew : IntKind.i64.wrap (65536 - sumS (formL p 0)) = 65536 - sumS (formL p 0) := IntWalk.i64_in _ (by omega)
      have ez1 : (⟨(headL p).toArray⟩ : ByteArray).size ≤ 100 := by rw [one_size _ _ (headL_length p)]; omega
      have ez2 : (⟨(zs 14).toArray⟩ : ByteArray).size ≤ 100 := by rw [one_size _ _ (zs_length 14)]; omega
      have ez3 : (⟨(leB (valSum p) 2).toArray⟩ : ByteArray).size ≤ 100 := by rw [one_size _ _ (leB_length _ _)]; omega
      have ez4 : (⟨(imgL ⟨p, m, s, t, lb, bt⟩).toArray⟩ : ByteArray).size ≤ 100 := by rw [one_size _ _ (imgL_length _)]; omega
      generalize (⟨(headL p).toArray⟩ : ByteArray) = HD at *
      generalize (⟨(zs 14).toArray⟩ : ByteArray) = Z at *
      generalize (⟨(leB (valSum p) 2).toArray⟩ : ByteArray) = LV at *
      generalize (⟨(imgL ⟨p, m, s, t, lb, bt⟩).toArray⟩ : ByteArray) = IM at *
      generalize sumS (formL p 0) = S at *
      generalize hV : valSum p = V at *
      have hpw : IntKind.u8.wrap p = (pb.toNat : Int) := by rw [hpb]; exact byte_wrap pb
      have hSt : St w wr [] := ⟨hbel, fun r hr => (List.not_mem_nil hr).elim, List.Pairwise.nil⟩
      clear hg0 hp hV hpb HB1 HSM
      go_upto_region 10 with fail
      go_cut [5] from 28 to 37 (fun x wx => x = .string HD ∧ St w wx [])
      case first =>
        refine wp_region_held_drew (S := (fun w' => St w w' [])) (by kernel_rfl) (hSt.drew) (fun hHeld => ?_)
        refine wpAnyH_take (i := 0) (oi := ?o1) (v := ?v1) ?hi1 (by kernel_rfl) (by kernel_rfl) (by kernel_rfl) ?hq1 ?hy1 (by assumption) ?hr1
        case hi1 => (simp only [List.getElem?_toArray, List.getElem?_cons_zero]; rfl)
        case hy1 => ((refine .inl ⟨by rfl, ?_⟩); intro w hS; go_simp; (try with_reducible rfl))
        case hq1 => exact fun _ _ _ h => h
        (simp only [Act.put, List.setIfInBounds_toArray, List.set_cons_zero, List.set_cons_succ])
        refine wpAnyH_take (i := 1) (oi := ?o2) (v := ?v2) ?hi2 (by kernel_rfl) (by kernel_rfl) (by kernel_rfl) ?hq2 ?hy2 (by assumption) ?hr2
        case hi2 => (simp only [List.getElem?_toArray, List.getElem?_cons_succ, List.getElem?_cons_zero]; rfl)
        case hy2 => ((refine .inl ⟨by rfl, ?_⟩); intro w hS; go_simp; (try with_reducible rfl))
        case hq2 => exact fun _ _ _ h => h
        (simp only [Act.put, List.setIfInBounds_toArray, List.set_cons_zero, List.set_cons_succ])
        refine wpAnyH_take (i := 2) (oi := ?o3) (v := ?v3) ?hi3 (by kernel_rfl) (by kernel_rfl) (by kernel_rfl) ?hq3 ?hy3 (by assumption) ?hr3
        case hi3 => (simp only [List.getElem?_toArray, List.getElem?_cons_succ, List.getElem?_cons_zero]; rfl)
        case hy3 => ((refine .inl ⟨by rfl, ?_⟩); intro w hS; go_simp; (try with_reducible rfl))
        case hq3 => exact fun _ _ _ h => h
        (simp only [Act.put, List.setIfInBounds_toArray, List.set_cons_zero, List.set_cons_succ])
        refine wpAnyH_take (i := 3) (oi := ?o4) (v := ?v4) ?hi4 (by kernel_rfl) (by kernel_rfl) (by kernel_rfl) ?hq4 ?hy4 (by assumption) ?hr4
        case hi4 => (simp only [List.getElem?_toArray, List.getElem?_cons_succ, List.getElem?_cons_zero]; rfl)
        case hy4 => ((refine .inl ⟨by rfl, ?_⟩); intro w hS; obtain ⟨p0, p1, p2, p3, p4, p5⟩ := img_cells (HSL.out.below hS.bel) rfl HX0.out; simp only [Nat.zero_mul, Nat.add_zero] at p0 p1 p2 p3 p4 p5; go_simp; (try with_reducible rfl))
        case hq4 => exact fun _ _ _ h => h
        (simp only [Act.put, List.setIfInBounds_toArray, List.set_cons_zero, List.set_cons_succ])
        refine wpAnyH_take (i := 4) (oi := ?o5) (v := ?v5) ?hi5 (by kernel_rfl) (by kernel_rfl) (by kernel_rfl) ?hq5 ?hy5 (by assumption) ?hr5
        case hi5 => (simp only [List.getElem?_toArray, List.getElem?_cons_succ, List.getElem?_cons_zero]; rfl)
        case hy5 => ((refine .inl ⟨by rfl, ?_⟩); intro w hS; go_simp; (try with_reducible rfl))
        case hq5 => exact fun _ _ _ h => h
        (simp only [Act.put, List.setIfInBounds_toArray, List.set_cons_zero, List.set_cons_succ])
        refine wpAnyH_ready (rs := [5, 8]) (by kernel_rfl) (by simp) ?_
        refine AllReadyH.cons rfl (fun K hK => ?_) (AllReadyH.cons rfl (fun K hK => ?_) AllReadyH.nil)
        · skip
          go_simp
          refine hK.out _ _ (St.other hHeld _) (fun hHeld1 => ?_)
          clear hK K
          (try simp only [Act.put, List.setIfInBounds_toArray, List.set_cons_zero, List.set_cons_succ])
          refine wpAnyH_row0 (hHeld.new (g := wr.heap.size) rfl #[.int .u8 1, .int .u8 (pb.toNat : Int), .int .u8 0, .int .u8 0] 5) (fun hHeld2 => ?_)
          clear hHeld hHeld1; have hHeld := hHeld2; clear hHeld2
          refine wpAnyH_take (i := 6) (oi := ?o6) (v := ?v6) ?hi6 (by kernel_rfl) (by kernel_rfl) (by kernel_rfl) ?hq6 ?hy6 (by assumption) ?hr6
          case hi6 => (simp only [List.getElem?_toArray, List.getElem?_cons_succ, List.getElem?_cons_zero]; rfl)
          case hy6 => ((refine .inl ⟨by rfl, ?_⟩); intro w hS; have q := run_bytes_row (cap := 4) Try.underlying35 Try.underlying5 Try.underlying9 [1, pb, 0, 0] (hS.at (i := 0) rfl) rfl 4 rfl; go_simp; (try with_reducible rfl))
          case hq6 => exact fun _ _ _ h => h
          (simp only [Act.put, List.setIfInBounds_toArray, List.set_cons_zero, List.set_cons_succ])
          refine wpAnyH_take (i := 7) (oi := ?o7) (v := ?v7) ?hi7 (by kernel_rfl) (by kernel_rfl) (by kernel_rfl) ?hq7 ?hy7 (by assumption) ?hr7
          case hi7 => (simp only [List.getElem?_toArray, List.getElem?_cons_succ, List.getElem?_cons_zero]; rfl)
          case hy7 => ((refine .inl ⟨by rfl, ?_⟩); intro w hS; go_simp; (try (rw [if_neg (by (try simp only [ByteArray.size_append]); (try simp); omega)])); (try with_reducible rfl))
          case hq7 => exact fun _ _ _ h => h
          (simp only [Act.put, List.setIfInBounds_toArray, List.set_cons_zero, List.set_cons_succ])
          refine wpAnyH_ready (rs := [8]) (by kernel_rfl) (by simp) ?_
          refine AllReadyH.cons rfl (fun K hK => ?_) AllReadyH.nil
          go_simp
          go_wp2_with ((refine (CZ.out _).mono ?_; rintro e w8 ⟨rfl, hb8⟩))
          refine hK.out _ _ (St.call hb8 hHeld) (fun hHeld1 => ?_)
          clear hK K
          (try simp only [Act.put, List.setIfInBounds_toArray, List.set_cons_zero, List.set_cons_succ])
          clear hHeld; have hHeld := hHeld1; clear hHeld1
          refine wpAnyH_take (i := 9) (oi := ?o8) (v := ?v8) ?hi8 (by kernel_rfl) (by kernel_rfl) (by kernel_rfl) ?hq8 ?hy8 (by assumption) ?hr8
          case hi8 => (simp only [List.getElem?_toArray, List.getElem?_cons_succ, List.getElem?_cons_zero]; rfl)
          case hy8 => ((refine .inl ⟨by rfl, ?_⟩); intro w hS; go_simp; (try (rw [if_neg (by (try simp only [ByteArray.size_append]); (try simp); omega)])); (try with_reducible rfl))
          case hq8 => exact fun _ _ _ h => h
          (simp only [Act.put, List.setIfInBounds_toArray, List.set_cons_zero, List.set_cons_succ])
          refine wpAnyH_take (i := 10) (oi := ?o9) (v := ?v9) ?hi9 (by kernel_rfl) (by kernel_rfl) (by kernel_rfl) ?hq9 ?hy9 (by assumption) ?hr9
          case hi9 => (simp only [List.getElem?_toArray, List.getElem?_cons_succ, List.getElem?_cons_zero]; rfl)
          case hy9 => ((refine .inl ⟨by rfl, ?_⟩); intro w hS; go_simp; (try with_reducible rfl))
          case hq9 => exact fun _ _ _ h => h
          (simp only [Act.put, List.setIfInBounds_toArray, List.set_cons_zero, List.set_cons_succ])
          refine wpAnyH_done (by kernel_rfl) ?_ _
          go_wp2_with fail
          go_meet
          exact ⟨by rw [← HHD.out], St.drop1 hHeld⟩
        · skip
          go_simp
          go_wp2_with ((refine (CZ.out _).mono ?_; rintro e w8 ⟨rfl, hb8⟩))
          refine hK.out _ _ (St.call hb8 hHeld) (fun hHeld1 => ?_)
          clear hK K
          (try simp only [Act.put, List.setIfInBounds_toArray, List.set_cons_zero, List.set_cons_succ])
          clear hHeld; have hHeld := hHeld1; clear hHeld1
          refine wpAnyH_ready (rs := [5]) (by kernel_rfl) (by simp) ?_
          refine AllReadyH.cons rfl (fun K hK => ?_) AllReadyH.nil
          go_simp
          refine hK.out _ _ (St.other hHeld _) (fun hHeld1 => ?_)
          clear hK K
          (try simp only [Act.put, List.setIfInBounds_toArray, List.set_cons_zero, List.set_cons_succ])
          refine wpAnyH_row0 (hHeld.new (g := w8.heap.size) rfl #[.int .u8 1, .int .u8 (pb.toNat : Int), .int .u8 0, .int .u8 0] 5) (fun hHeld2 => ?_)
          clear hHeld hHeld1; have hHeld := hHeld2; clear hHeld2
          refine wpAnyH_take (i := 6) (oi := ?o10) (v := ?v10) ?hi10 (by kernel_rfl) (by kernel_rfl) (by kernel_rfl) ?hq10 ?hy10 (by assumption) ?hr10
          case hi10 => (simp only [List.getElem?_toArray, List.getElem?_cons_succ, List.getElem?_cons_zero]; rfl)
          case hy10 => ((refine .inl ⟨by rfl, ?_⟩); intro w hS; have q := run_bytes_row (cap := 4) Try.underlying35 Try.underlying5 Try.underlying9 [1, pb, 0, 0] (hS.at (i := 0) rfl) rfl 4 rfl; go_simp; (try with_reducible rfl))
          case hq10 => exact fun _ _ _ h => h
          (simp only [Act.put, List.setIfInBounds_toArray, List.set_cons_zero, List.set_cons_succ])
          refine wpAnyH_take (i := 7) (oi := ?o11) (v := ?v11) ?hi11 (by kernel_rfl) (by kernel_rfl) (by kernel_rfl) ?hq11 ?hy11 (by assumption) ?hr11
          case hi11 => (simp only [List.getElem?_toArray, List.getElem?_cons_succ, List.getElem?_cons_zero]; rfl)
          case hy11 => ((refine .inl ⟨by rfl, ?_⟩); intro w hS; go_simp; (try (rw [if_neg (by (try simp only [ByteArray.size_append]); (try simp); omega)])); (try with_reducible rfl))
          case hq11 => exact fun _ _ _ h => h
          (simp only [Act.put, List.setIfInBounds_toArray, List.set_cons_zero, List.set_cons_succ])
          refine wpAnyH_take (i := 9) (oi := ?o12) (v := ?v12) ?hi12 (by kernel_rfl) (by kernel_rfl) (by kernel_rfl) ?hq12 ?hy12 (by assumption) ?hr12
          case hi12 => (simp only [List.getElem?_toArray, List.getElem?_cons_succ, List.getElem?_cons_zero]; rfl)
          case hy12 => ((refine .inl ⟨by rfl, ?_⟩); intro w hS; go_simp; (try (rw [if_neg (by (try simp only [ByteArray.size_append]); (try simp); omega)])); (try with_reducible rfl))
          case hq12 => exact fun _ _ _ h => h
          (simp only [Act.put, List.setIfInBounds_toArray, List.set_cons_zero, List.set_cons_succ])
          refine wpAnyH_take (i := 10) (oi := ?o13) (v := ?v13) ?hi13 (by kernel_rfl) (by kernel_rfl) (by kernel_rfl) ?hq13 ?hy13 (by assumption) ?hr13
          case hi13 => (simp only [List.getElem?_toArray, List.getElem?_cons_succ, List.getElem?_cons_zero]; rfl)
          case hy13 => ((refine .inl ⟨by rfl, ?_⟩); intro w hS; go_simp; (try with_reducible rfl))
          case hq13 => exact fun _ _ _ h => h
          (simp only [Act.put, List.setIfInBounds_toArray, List.set_cons_zero, List.set_cons_succ])
          refine wpAnyH_done (by kernel_rfl) ?_ _
          go_wp2_with fail
          go_meet
          exact ⟨by rw [← HHD.out], St.drop1 hHeld⟩
      case rest =>
        obtain ⟨rfl, h2⟩ := hcut
        clear hSt hbel
        go_upto_region 12 with fail
        refine wp_region_held_drew (S := (fun w' => St w w' [])) (by kernel_rfl) (h2.drew) (fun hHeld => ?_)
        refine wpAnyH_take (i := 0) (oi := ?o14) (v := ?v14) ?hi14 (by kernel_rfl) (by kernel_rfl) (by kernel_rfl) ?hq14 ?hy14 (by assumption) ?hr14
        case hi14 => (simp only [List.getElem?_toArray, List.getElem?_cons_zero]; rfl)
        case hy14 => ((refine .inl ⟨by rfl, ?_⟩); intro w hS; go_simp; (try with_reducible rfl))
        case hq14 => exact fun _ _ _ h => h
        (simp only [Act.put, List.setIfInBounds_toArray, List.set_cons_zero, List.set_cons_succ])
        refine wpAnyH_take (i := 1) (oi := ?o15) (v := ?v15) ?hi15 (by kernel_rfl) (by kernel_rfl) (by kernel_rfl) ?hq15 ?hy15 (by assumption) ?hr15
        case hi15 => (simp only [List.getElem?_toArray, List.getElem?_cons_succ, List.getElem?_cons_zero]; rfl)
        case hy15 => ((refine .inl ⟨by rfl, ?_⟩); intro w hS; go_simp; (try with_reducible rfl))
        case hq15 => exact fun _ _ _ h => h
        (simp only [Act.put, List.setIfInBounds_toArray, List.set_cons_zero, List.set_cons_succ])
        refine wpAnyH_take (i := 2) (oi := ?o16) (v := ?v16) ?hi16 (by kernel_rfl) (by kernel_rfl) (by kernel_rfl) ?hq16 ?hy16 (by assumption) ?hr16
        case hi16 => (simp only [List.getElem?_toArray, List.getElem?_cons_succ, List.getElem?_cons_zero]; rfl)
        case hy16 => ((refine .inl ⟨by rfl, ?_⟩); intro w hS; go_simp; (try (rw [if_neg (by (try simp only [ByteArray.size_append]); (try simp); omega)])); (try with_reducible rfl))
        case hq16 => exact fun _ _ _ h => h
        (simp only [Act.put, List.setIfInBounds_toArray, List.set_cons_zero, List.set_cons_succ])
        refine wpAnyH_take (i := 3) (oi := ?o17) (v := ?v17) ?hi17 (by kernel_rfl) (by kernel_rfl) (by kernel_rfl) ?hq17 ?hy17 (by assumption) ?hr17
        case hi17 => (simp only [List.getElem?_toArray, List.getElem?_cons_succ, List.getElem?_cons_zero]; rfl)
        case hy17 => ((refine .inl ⟨by rfl, ?_⟩); intro w hS; go_simp; (try with_reducible rfl))
        case hq17 => exact fun _ _ _ h => h
        (simp only [Act.put, List.setIfInBounds_toArray, List.set_cons_zero, List.set_cons_succ])
        refine wpAnyH_take (i := 4) (oi := ?o18) (v := ?v18) ?hi18 (by kernel_rfl) (by kernel_rfl) (by kernel_rfl) ?hq18 ?hy18 (by assumption) ?hr18
        case hi18 => (simp only [List.getElem?_toArray, List.getElem?_cons_succ, List.getElem?_cons_zero]; rfl)
        case hy18 => ((refine .inl ⟨by rfl, ?_⟩); intro w hS; go_simp; (try (rw [if_neg (by (try simp only [ByteArray.size_append]); (try simp); omega)])); (try with_reducible rfl))
        case hq18 => exact fun _ _ _ h => h
        (simp only [Act.put, List.setIfInBounds_toArray, List.set_cons_zero, List.set_cons_succ])
        refine wpAnyH_take (i := 10) (oi := ?o19) (v := ?v19) ?hi19 (by kernel_rfl) (by kernel_rfl) (by kernel_rfl) ?hq19 ?hy19 (by assumption) ?hr19
        case hi19 => (simp only [List.getElem?_toArray, List.getElem?_cons_succ, List.getElem?_cons_zero]; rfl)
        case hy19 => ((refine .inl ⟨by rfl, ?_⟩); intro w hS; go_simp; (try with_reducible rfl))
        case hq19 => exact fun _ _ _ h => h
        (simp only [Act.put, List.setIfInBounds_toArray, List.set_cons_zero, List.set_cons_succ])
        refine wpAnyH_take (i := 12) (oi := ?o20) (v := ?v20) ?hi20 (by kernel_rfl) (by kernel_rfl) (by kernel_rfl) ?hq20 ?hy20 (by assumption) ?hr20
        case hi20 => (simp only [List.getElem?_toArray, List.getElem?_cons_succ, List.getElem?_cons_zero]; rfl)
        case hy20 => ((refine .inl ⟨by rfl, ?_⟩); intro w hS; go_simp; (try with_reducible rfl))
        case hq20 => exact fun _ _ _ h => h
        (simp only [Act.put, List.setIfInBounds_toArray, List.set_cons_zero, List.set_cons_succ])
        refine wpAnyH_take (i := 13) (oi := ?o21) (v := ?v21) ?hi21 (by kernel_rfl) (by kernel_rfl) (by kernel_rfl) ?hq21 ?hy21 (by assumption) ?hr21
        case hi21 => (simp only [List.getElem?_toArray, List.getElem?_cons_succ, List.getElem?_cons_zero]; rfl)
        case hy21 => ((refine .inl ⟨by rfl, ?_⟩); intro w hS; go_simp; (try with_reducible rfl))
        case hq21 => exact fun _ _ _ h => h
        (simp only [Act.put, List.setIfInBounds_toArray, List.set_cons_zero, List.set_cons_succ])
        refine wpAnyH_take (i := 14) (oi := ?o22) (v := ?v22) ?hi22 (by kernel_rfl) (by kernel_rfl) (by kernel_rfl) ?hq22 ?hy22 (by assumption) ?hr22
        case hi22 => (simp only [List.getElem?_toArray, List.getElem?_cons_succ, List.getElem?_cons_zero]; rfl)
        case hy22 => ((refine .inl ⟨by rfl, ?_⟩); intro w hS; obtain ⟨p0, p1, p2, p3, p4, p5⟩ := img_cells (HSL.out.below hS.bel) rfl HX0.out; simp only [Nat.zero_mul, Nat.add_zero] at p0 p1 p2 p3 p4 p5; go_simp; (try with_reducible rfl))
        case hq22 => exact fun _ _ _ h => h
        (simp only [Act.put, List.setIfInBounds_toArray, List.set_cons_zero, List.set_cons_succ])
        refine wpAnyH_ready (rs := [5]) (by kernel_rfl) (by simp) ?_
        refine AllReadyH.cons rfl (fun K hK => ?_) AllReadyH.nil
        go_simp
        go_wp2_with ((refine (CS.out _).mono ?_; rintro e w5 ⟨rfl, hb5⟩))
        refine hK.out _ _ (St.call hb5 hHeld) (fun hHeld1 => ?_)
        clear hK K
        (try simp only [Act.put, List.setIfInBounds_toArray, List.set_cons_zero, List.set_cons_succ])
        clear hHeld; have hHeld := hHeld1; clear hHeld1
        refine wpAnyH_take (i := 6) (oi := ?o23) (v := ?v23) ?hi23 (by kernel_rfl) (by kernel_rfl) (by kernel_rfl) ?hq23 ?hy23 (by assumption) ?hr23
        case hi23 => (simp only [List.getElem?_toArray, List.getElem?_cons_succ, List.getElem?_cons_zero]; rfl)
        case hy23 => ((refine .inl ⟨by rfl, ?_⟩); intro w hS; go_simp; (try with_reducible rfl))
        case hq23 => exact fun _ _ _ h => h
        (simp only [Act.put, List.setIfInBounds_toArray, List.set_cons_zero, List.set_cons_succ])
        refine wpAnyH_take (i := 7) (oi := ?o24) (v := ?v24) ?hi24 (by kernel_rfl) (by kernel_rfl) (by kernel_rfl) ?hq24 ?hy24 (by assumption) ?hr24
        case hi24 => (simp only [List.getElem?_toArray, List.getElem?_cons_succ, List.getElem?_cons_zero]; rfl)
        case hy24 => ((refine .inl ⟨by rfl, ?_⟩); intro w hS; go_simp; (try rw [HVS.out]); (try with_reducible rfl))
        case hq24 => exact fun _ _ _ h => h
        (simp only [Act.put, List.setIfInBounds_toArray, List.set_cons_zero, List.set_cons_succ])
        refine wpAnyH_ready (rs := [8]) (by kernel_rfl) (by simp) ?_
        refine AllReadyH.cons rfl (fun K hK => ?_) AllReadyH.nil
        go_simp
        go_wp2_with ((refine (CN.out _).mono ?_; rintro e w8 ⟨rfl, hb8⟩))
        refine hK.out _ _ (St.call hb8 hHeld) (fun hHeld1 => ?_)
        clear hK K
        (try simp only [Act.put, List.setIfInBounds_toArray, List.set_cons_zero, List.set_cons_succ])
        clear hHeld; have hHeld := hHeld1; clear hHeld1
        refine wpAnyH_take (i := 9) (oi := ?o25) (v := ?v25) ?hi25 (by kernel_rfl) (by kernel_rfl) (by kernel_rfl) ?hq25 ?hy25 (by assumption) ?hr25
        case hi25 => (simp only [List.getElem?_toArray, List.getElem?_cons_succ, List.getElem?_cons_zero]; rfl)
        case hy25 => ((refine .inl ⟨by rfl, ?_⟩); intro w hS; go_simp; (try (rw [if_neg (by (try simp only [ByteArray.size_append]); (try simp); omega)])); (try with_reducible rfl))
        case hq25 => exact fun _ _ _ h => h
        (simp only [Act.put, List.setIfInBounds_toArray, List.set_cons_zero, List.set_cons_succ])
        refine wpAnyH_take (i := 11) (oi := ?o26) (v := ?v26) ?hi26 (by kernel_rfl) (by kernel_rfl) (by kernel_rfl) ?hq26 ?hy26 (by assumption) ?hr26
        case hi26 => (simp only [List.getElem?_toArray, List.getElem?_cons_succ, List.getElem?_cons_zero]; rfl)
        case hy26 => ((refine .inl ⟨by rfl, ?_⟩); intro w hS; go_simp; (try (rw [if_neg (by (try simp only [ByteArray.size_append]); (try simp); omega)])); (try with_reducible rfl))
        case hq26 => exact fun _ _ _ h => h
        (simp only [Act.put, List.setIfInBounds_toArray, List.set_cons_zero, List.set_cons_succ])
        refine wpAnyH_ready (rs := [15]) (by kernel_rfl) (by simp) ?_
        refine AllReadyH.cons rfl (fun K hK => ?_) AllReadyH.nil
        go_simp
        go_wp2_with ((refine (CI.out _).mono ?_; rintro e w15 ⟨rfl, hb15⟩))
        refine hK.out _ _ (St.call hb15 hHeld) (fun hHeld1 => ?_)
        clear hK K
        (try simp only [Act.put, List.setIfInBounds_toArray, List.set_cons_zero, List.set_cons_succ])
        clear hHeld; have hHeld := hHeld1; clear hHeld1
        refine wpAnyH_take (i := 16) (oi := ?o27) (v := ?v27) ?hi27 (by kernel_rfl) (by kernel_rfl) (by kernel_rfl) ?hq27 ?hy27 (by assumption) ?hr27
        case hi27 => (simp only [List.getElem?_toArray, List.getElem?_cons_succ, List.getElem?_cons_zero]; rfl)
        case hy27 => ((refine .inl ⟨by rfl, ?_⟩); intro w hS; go_simp; (try (rw [if_neg (by (try simp only [ByteArray.size_append]); (try simp); omega)])); (try with_reducible rfl))
        case hq27 => exact fun _ _ _ h => h
        (simp only [Act.put, List.setIfInBounds_toArray, List.set_cons_zero, List.set_cons_succ])
        refine wpAnyH_take (i := 17) (oi := ?o28) (v := ?v28) ?hi28 (by kernel_rfl) (by kernel_rfl) (by kernel_rfl) ?hq28 ?hy28 (by assumption) ?hr28
        case hi28 => (simp only [List.getElem?_toArray, List.getElem?_cons_succ, List.getElem?_cons_zero]; rfl)
        case hy28 => ((refine .inl ⟨by rfl, ?_⟩); intro w hS; go_simp; (try with_reducible rfl))
        case hq28 => exact fun _ _ _ h => h
        (simp only [Act.put, List.setIfInBounds_toArray, List.set_cons_zero, List.set_cons_succ])
        refine wpAnyH_done (by kernel_rfl) ?_ _
        clear CZ CS CN CI HX0 HHD HVS
        rw [HB2.out]
        have hbel := hHeld.bel
        clear hHeld h2 hb5 hb8 hb15 s0 s1 v0 v1 ew ez1 ez2 ez3 ez4 HB2 hpw hp0 hp1
        have CZ2 := Lib.hid (fun w => rzeros_any 28 w (by omega))
        go_wp2_with fail
        go_loopw [7, 8] (fun t i wr => ∃ j : Nat, 1 ≤ j ∧ j ≤ k ∧ i = .int .i64 j ∧ t = .string ⟨(bodyUp l j).toArray⟩ ∧ Below w.heap.size w wr) (fun _ i _ => k - (intOf i).toNat)
        case atStart => exact ⟨1, by omega, by omega, rfl, rfl, hbel⟩
        case round =>
          clear hbel
          obtain ⟨j, hj1, hj, rfl, rfl, hbel⟩ := hrel
          by_cases hlt : j < k
          · obtain ⟨x, hx⟩ : ∃ x, l[j]? = some x := ⟨l[j]'(by rw [HL.out]; exact hlt), List.getElem?_eq_getElem _⟩
            have HX := Lib.hid hx
            have hgx := HG1.out j x hx
            have CI := Lib.hid (fun w => rimage_any x w hgx)
            have hzs : (⟨(bodyUp l j).toArray⟩ : ByteArray).size ≤ 10000 := by rw [one_size _ _ (HBL.out j (by omega))]; omega
            clear hx
            obtain ⟨ip, im, ig, is, il, ib⟩ := x
            obtain ⟨hq, _⟩ := imgOk_parts hgx
            obtain ⟨hq0, hq1⟩ := plat_bd hq
            rw [imV] at CI
            dsimp only at CI
            obtain ⟨qb, hqb, -⟩ := byte_ex hq0 hq1
            have hqw : IntKind.u8.wrap ip = (qb.toNat : Int) := by rw [hqb]; exact byte_wrap qb
            have ez5 : (⟨(imgL ⟨ip, im, ig, is, il, ib⟩).toArray⟩ : ByteArray).size ≤ 100 := by rw [one_size _ _ (imgL_length _)]; omega
            have ez6 : (⟨(zs 28).toArray⟩ : ByteArray).size ≤ 100 := by rw [one_size _ _ (zs_length 28)]; omega
            have hjI : (j : Int) < (k : Int) := by omega
            have hj0 : (0 : Int) ≤ (j : Int) := by omega
            clear hgx hq
            by_cases hlast : j + 1 = k
            · have HK : Hid (kindOf k j = 145) := Lib.hid (by unfold kindOf; rw [if_pos hlast])
              have ej : ((j : Int) == (k : Int) - 1) = true := by rw [beq_iff_eq]; omega
              have HB3 : Hid ((⟨(bodyUp l j).toArray⟩ : ByteArray) ++ ⟨#[145, qb, 1, 0]⟩ ++ ⟨(zs 28).toArray⟩ ++ ⟨(imgL ⟨ip, im, ig, is, il, ib⟩).toArray⟩ = ⟨(bodyUp l (j + 1)).toArray⟩) := Lib.hid (by
                rw [show (⟨#[145, qb, 1, 0]⟩ : ByteArray) = ⟨[145, qb, 1, 0].toArray⟩ from rfl, mk_append, mk_append, mk_append, bodyUp_snoc HX.out, HL.out]
                unfold partL
                rw [if_neg (by omega), HK.out]
                dsimp only
                rw [hdrL, hdrP, leB1 ip qb hqb, leB1 145 145 rfl]
                simp [leB12])
              clear HK hqb
              generalize (⟨(bodyUp l j).toArray⟩ : ByteArray) = SJ at *
              generalize (⟨(zs 28).toArray⟩ : ByteArray) = Z8 at *
              generalize (⟨(imgL ⟨ip, im, ig, is, il, ib⟩).toArray⟩ : ByteArray) = IJ at *
              have hSt : St w wr [] := ⟨hbel, fun r hr => (List.not_mem_nil hr).elim, List.Pairwise.nil⟩
              clear hbel
              go_upto_region 19 with fail
              refine wp_region_held_drew (S := (fun w' => St w w' [])) (by kernel_rfl) (hSt.drew) (fun hHeld => ?_)
              refine wpAnyH_take (i := 0) (oi := ?o56) (v := ?v56) ?hi56 (by kernel_rfl) (by kernel_rfl) (by kernel_rfl) ?hq56 ?hy56 (by assumption) ?hr56
              case hi56 => (simp only [List.getElem?_toArray, List.getElem?_cons_zero]; rfl)
              case hy56 => ((refine .inl ⟨by rfl, ?_⟩); intro w hS; go_simp; (try with_reducible rfl))
              case hq56 => exact fun _ _ _ h => h
              (simp only [Act.put, List.setIfInBounds_toArray, List.set_cons_zero, List.set_cons_succ])
              refine wpAnyH_take (i := 1) (oi := ?o57) (v := ?v57) ?hi57 (by kernel_rfl) (by kernel_rfl) (by kernel_rfl) ?hq57 ?hy57 (by assumption) ?hr57
              case hi57 => (simp only [List.getElem?_toArray, List.getElem?_cons_succ, List.getElem?_cons_zero]; rfl)
              case hy57 => ((refine .inl ⟨by rfl, ?_⟩); intro w hS; go_simp; (try with_reducible rfl))
              case hq57 => exact fun _ _ _ h => h
              (simp only [Act.put, List.setIfInBounds_toArray, List.set_cons_zero, List.set_cons_succ])
              refine wpAnyH_take (i := 2) (oi := ?o58) (v := ?v58) ?hi58 (by kernel_rfl) (by kernel_rfl) (by kernel_rfl) ?hq58 ?hy58 (by assumption) ?hr58
              case hi58 => (simp only [List.getElem?_toArray, List.getElem?_cons_succ, List.getElem?_cons_zero]; rfl)
              case hy58 => ((refine .inl ⟨by rfl, ?_⟩); intro w hS; go_simp; (try with_reducible rfl))
              case hq58 => exact fun _ _ _ h => h
              (simp only [Act.put, List.setIfInBounds_toArray, List.set_cons_zero, List.set_cons_succ])
              refine wpAnyH_take (i := 3) (oi := ?o59) (v := ?v59) ?hi59 (by kernel_rfl) (by kernel_rfl) (by kernel_rfl) ?hq59 ?hy59 (by assumption) ?hr59
              case hi59 => (simp only [List.getElem?_toArray, List.getElem?_cons_succ, List.getElem?_cons_zero]; rfl)
              case hy59 => ((refine .inl ⟨by rfl, ?_⟩); intro w hS; go_simp; (try with_reducible rfl))
              case hq59 => exact fun _ _ _ h => h
              (simp only [Act.put, List.setIfInBounds_toArray, List.set_cons_zero, List.set_cons_succ])
              refine wpAnyH_take (i := 4) (oi := ?o60) (v := ?v60) ?hi60 (by kernel_rfl) (by kernel_rfl) (by kernel_rfl) ?hq60 ?hy60 (by assumption) ?hr60
              case hi60 => (simp only [List.getElem?_toArray, List.getElem?_cons_succ, List.getElem?_cons_zero]; rfl)
              case hy60 => ((refine .inl ⟨by rfl, ?_⟩); intro w hS; go_simp; (try with_reducible rfl))
              case hq60 => exact fun _ _ _ h => h
              (simp only [Act.put, List.setIfInBounds_toArray, List.set_cons_zero, List.set_cons_succ])
              refine wpAnyH_take (i := 5) (oi := ?o61) (v := ?v61) ?hi61 (by kernel_rfl) (by kernel_rfl) (by kernel_rfl) ?hq61 ?hy61 (by assumption) ?hr61
              case hi61 => (simp only [List.getElem?_toArray, List.getElem?_cons_succ, List.getElem?_cons_zero]; rfl)
              case hy61 => ((refine .inl ⟨by rfl, ?_⟩); intro w hS; go_simp; (try with_reducible rfl))
              case hq61 => exact fun _ _ _ h => h
              (simp only [Act.put, List.setIfInBounds_toArray, List.set_cons_zero, List.set_cons_succ])
              refine wpAnyH_take (i := 6) (oi := ?o62) (v := ?v62) ?hi62 (by kernel_rfl) (by kernel_rfl) (by kernel_rfl) ?hq62 ?hy62 (by assumption) ?hr62
              case hi62 => (simp only [List.getElem?_toArray, List.getElem?_cons_succ, List.getElem?_cons_zero]; rfl)
              case hy62 => ((refine .inl ⟨by rfl, ?_⟩); intro w hS; obtain ⟨p0, p1, p2, p3, p4, p5⟩ := img_cells (HSL.out.below hS.bel) rfl HX.out; go_simp; (try with_reducible rfl))
              case hq62 => exact fun _ _ _ h => h
              (simp only [Act.put, List.setIfInBounds_toArray, List.set_cons_zero, List.set_cons_succ])
              refine wpAnyH_take (i := 7) (oi := ?o63) (v := ?v63) ?hi63 (by kernel_rfl) (by kernel_rfl) (by kernel_rfl) ?hq63 ?hy63 (by assumption) ?hr63
              case hi63 => (simp only [List.getElem?_toArray, List.getElem?_cons_succ, List.getElem?_cons_zero]; rfl)
              case hy63 => ((refine .inl ⟨by rfl, ?_⟩); intro w hS; go_simp; (try with_reducible rfl))
              case hq63 => exact fun _ _ _ h => h
              (simp only [Act.put, List.setIfInBounds_toArray, List.set_cons_zero, List.set_cons_succ])
              refine wpAnyH_take (i := 13) (oi := ?o64) (v := ?v64) ?hi64 (by kernel_rfl) (by kernel_rfl) (by kernel_rfl) ?hq64 ?hy64 (by assumption) ?hr64
              case hi64 => (simp only [List.getElem?_toArray, List.getElem?_cons_succ, List.getElem?_cons_zero]; rfl)
              case hy64 => ((refine .inl ⟨by rfl, ?_⟩); intro w hS; go_simp; (try with_reducible rfl))
              case hq64 => exact fun _ _ _ h => h
              (simp only [Act.put, List.setIfInBounds_toArray, List.set_cons_zero, List.set_cons_succ])
              refine wpAnyH_take (i := 14) (oi := ?o65) (v := ?v65) ?hi65 (by kernel_rfl) (by kernel_rfl) (by kernel_rfl) ?hq65 ?hy65 (by assumption) ?hr65
              case hi65 => (simp only [List.getElem?_toArray, List.getElem?_cons_succ, List.getElem?_cons_zero]; rfl)
              case hy65 => ((refine .inl ⟨by rfl, ?_⟩); intro w hS; go_simp; (try with_reducible rfl))
              case hq65 => exact fun _ _ _ h => h
              (simp only [Act.put, List.setIfInBounds_toArray, List.set_cons_zero, List.set_cons_succ])
              refine wpAnyH_take (i := 15) (oi := ?o66) (v := ?v66) ?hi66 (by kernel_rfl) (by kernel_rfl) (by kernel_rfl) ?hq66 ?hy66 (by assumption) ?hr66
              case hi66 => (simp only [List.getElem?_toArray, List.getElem?_cons_succ, List.getElem?_cons_zero]; rfl)
              case hy66 => ((refine .inl ⟨by rfl, ?_⟩); intro w hS; go_simp; (try with_reducible rfl))
              case hq66 => exact fun _ _ _ h => h
              (simp only [Act.put, List.setIfInBounds_toArray, List.set_cons_zero, List.set_cons_succ])
              refine wpAnyH_take (i := 16) (oi := ?o67) (v := ?v67) ?hi67 (by kernel_rfl) (by kernel_rfl) (by kernel_rfl) ?hq67 ?hy67 (by assumption) ?hr67
              case hi67 => (simp only [List.getElem?_toArray, List.getElem?_cons_succ, List.getElem?_cons_zero]; rfl)
              case hy67 => ((refine .inl ⟨by rfl, ?_⟩); intro w hS; obtain ⟨p0, p1, p2, p3, p4, p5⟩ := img_cells (HSL.out.below hS.bel) rfl HX.out; go_simp; (try with_reducible rfl))
              case hq67 => exact fun _ _ _ h => h
              (simp only [Act.put, List.setIfInBounds_toArray, List.set_cons_zero, List.set_cons_succ])
              refine wpAnyH_ready (rs := [8, 11]) (by kernel_rfl) (by simp) ?_
              refine AllReadyH.cons rfl (fun K hK => ?_) (AllReadyH.cons rfl (fun K hK => ?_) AllReadyH.nil)
              · skip
                go_simp
                refine hK.out _ _ (St.other hHeld _) (fun hHeld1 => ?_)
                clear hK K
                (try simp only [Act.put, List.setIfInBounds_toArray, List.set_cons_zero, List.set_cons_succ])
                refine wpAnyH_row0 (hHeld.new (g := wr.heap.size) rfl #[.int .u8 145, .int .u8 (qb.toNat : Int), .int .u8 1, .int .u8 0] 5) (fun hHeld2 => ?_)
                clear hHeld hHeld1; have hHeld := hHeld2; clear hHeld2
                refine wpAnyH_take (i := 9) (oi := ?o68) (v := ?v68) ?hi68 (by kernel_rfl) (by kernel_rfl) (by kernel_rfl) ?hq68 ?hy68 (by assumption) ?hr68
                case hi68 => (simp only [List.getElem?_toArray, List.getElem?_cons_succ, List.getElem?_cons_zero]; rfl)
                case hy68 => ((refine .inl ⟨by rfl, ?_⟩); intro w hS; have q := run_bytes_row (cap := 4) Try.underlying35 Try.underlying5 Try.underlying9 [145, qb, 1, 0] (hS.at (i := 0) rfl) rfl 4 rfl; go_simp; (try with_reducible rfl))
                case hq68 => exact fun _ _ _ h => h
                (simp only [Act.put, List.setIfInBounds_toArray, List.set_cons_zero, List.set_cons_succ])
                refine wpAnyH_take (i := 10) (oi := ?o69) (v := ?v69) ?hi69 (by kernel_rfl) (by kernel_rfl) (by kernel_rfl) ?hq69 ?hy69 (by assumption) ?hr69
                case hi69 => (simp only [List.getElem?_toArray, List.getElem?_cons_succ, List.getElem?_cons_zero]; rfl)
                case hy69 => ((refine .inl ⟨by rfl, ?_⟩); intro w hS; go_simp; (try (rw [if_neg (by (try simp only [ByteArray.size_append]); (try simp); omega)])); (try with_reducible rfl))
                case hq69 => exact fun _ _ _ h => h
                (simp only [Act.put, List.setIfInBounds_toArray, List.set_cons_zero, List.set_cons_succ])
                refine wpAnyH_ready (rs := [11]) (by kernel_rfl) (by simp) ?_
                refine AllReadyH.cons rfl (fun K hK => ?_) AllReadyH.nil
                go_simp
                go_wp2_with ((refine (CZ2.out _).mono ?_; rintro e w11 ⟨rfl, hb11⟩))
                refine hK.out _ _ (St.call hb11 hHeld) (fun hHeld1 => ?_)
                clear hK K
                (try simp only [Act.put, List.setIfInBounds_toArray, List.set_cons_zero, List.set_cons_succ])
                clear hHeld; have hHeld := hHeld1; clear hHeld1
                refine wpAnyH_take (i := 12) (oi := ?o70) (v := ?v70) ?hi70 (by kernel_rfl) (by kernel_rfl) (by kernel_rfl) ?hq70 ?hy70 (by assumption) ?hr70
                case hi70 => (simp only [List.getElem?_toArray, List.getElem?_cons_succ, List.getElem?_cons_zero]; rfl)
                case hy70 => ((refine .inl ⟨by rfl, ?_⟩); intro w hS; go_simp; (try (rw [if_neg (by (try simp only [ByteArray.size_append]); (try simp); omega)])); (try with_reducible rfl))
                case hq70 => exact fun _ _ _ h => h
                (simp only [Act.put, List.setIfInBounds_toArray, List.set_cons_zero, List.set_cons_succ])
                refine wpAnyH_ready (rs := [17]) (by kernel_rfl) (by simp) ?_
                refine AllReadyH.cons rfl (fun K hK => ?_) AllReadyH.nil
                go_simp
                go_wp2_with ((refine (CI.out _).mono ?_; rintro e w17 ⟨rfl, hb17⟩))
                refine hK.out _ _ (St.call hb17 hHeld) (fun hHeld1 => ?_)
                clear hK K
                (try simp only [Act.put, List.setIfInBounds_toArray, List.set_cons_zero, List.set_cons_succ])
                clear hHeld; have hHeld := hHeld1; clear hHeld1
                refine wpAnyH_take (i := 18) (oi := ?o71) (v := ?v71) ?hi71 (by kernel_rfl) (by kernel_rfl) (by kernel_rfl) ?hq71 ?hy71 (by assumption) ?hr71
                case hi71 => (simp only [List.getElem?_toArray, List.getElem?_cons_succ, List.getElem?_cons_zero]; rfl)
                case hy71 => ((refine .inl ⟨by rfl, ?_⟩); intro w hS; go_simp; (try (rw [if_neg (by (try simp only [ByteArray.size_append]); (try simp); omega)])); (try with_reducible rfl))
                case hq71 => exact fun _ _ _ h => h
                (simp only [Act.put, List.setIfInBounds_toArray, List.set_cons_zero, List.set_cons_succ])
                refine wpAnyH_take (i := 19) (oi := ?o72) (v := ?v72) ?hi72 (by kernel_rfl) (by kernel_rfl) (by kernel_rfl) ?hq72 ?hy72 (by assumption) ?hr72
                case hi72 => (simp only [List.getElem?_toArray, List.getElem?_cons_succ, List.getElem?_cons_zero]; rfl)
                case hy72 => ((refine .inl ⟨by rfl, ?_⟩); intro w hS; go_simp; (try with_reducible rfl))
                case hq72 => exact fun _ _ _ h => h
                (simp only [Act.put, List.setIfInBounds_toArray, List.set_cons_zero, List.set_cons_succ])
                refine wpAnyH_done (by kernel_rfl) ?_ _
                have hb9 := hHeld.bel
                clear hHeld
                go_wp2_with fail
                go_roundw
                case rel => exact ⟨j + 1, by omega, by omega, by go_num, by rw [← HB3.out], hb9⟩
                case measure => simp [intOf]; omega
              · skip
                go_simp
                go_wp2_with ((refine (CZ2.out _).mono ?_; rintro e w11 ⟨rfl, hb11⟩))
                refine hK.out _ _ (St.call hb11 hHeld) (fun hHeld1 => ?_)
                clear hK K
                (try simp only [Act.put, List.setIfInBounds_toArray, List.set_cons_zero, List.set_cons_succ])
                clear hHeld; have hHeld := hHeld1; clear hHeld1
                refine wpAnyH_ready (rs := [8, 17]) (by kernel_rfl) (by simp) ?_
                refine AllReadyH.cons rfl (fun K hK => ?_) (AllReadyH.cons rfl (fun K hK => ?_) AllReadyH.nil)
                · skip
                  go_simp
                  refine hK.out _ _ (St.other hHeld _) (fun hHeld1 => ?_)
                  clear hK K
                  (try simp only [Act.put, List.setIfInBounds_toArray, List.set_cons_zero, List.set_cons_succ])
                  refine wpAnyH_row0 (hHeld.new (g := w11.heap.size) rfl #[.int .u8 145, .int .u8 (qb.toNat : Int), .int .u8 1, .int .u8 0] 5) (fun hHeld2 => ?_)
                  clear hHeld hHeld1; have hHeld := hHeld2; clear hHeld2
                  refine wpAnyH_take (i := 9) (oi := ?o73) (v := ?v73) ?hi73 (by kernel_rfl) (by kernel_rfl) (by kernel_rfl) ?hq73 ?hy73 (by assumption) ?hr73
                  case hi73 => (simp only [List.getElem?_toArray, List.getElem?_cons_succ, List.getElem?_cons_zero]; rfl)
                  case hy73 => ((refine .inl ⟨by rfl, ?_⟩); intro w hS; have q := run_bytes_row (cap := 4) Try.underlying35 Try.underlying5 Try.underlying9 [145, qb, 1, 0] (hS.at (i := 0) rfl) rfl 4 rfl; go_simp; (try with_reducible rfl))
                  case hq73 => exact fun _ _ _ h => h
                  (simp only [Act.put, List.setIfInBounds_toArray, List.set_cons_zero, List.set_cons_succ])
                  refine wpAnyH_take (i := 10) (oi := ?o74) (v := ?v74) ?hi74 (by kernel_rfl) (by kernel_rfl) (by kernel_rfl) ?hq74 ?hy74 (by assumption) ?hr74
                  case hi74 => (simp only [List.getElem?_toArray, List.getElem?_cons_succ, List.getElem?_cons_zero]; rfl)
                  case hy74 => ((refine .inl ⟨by rfl, ?_⟩); intro w hS; go_simp; (try (rw [if_neg (by (try simp only [ByteArray.size_append]); (try simp); omega)])); (try with_reducible rfl))
                  case hq74 => exact fun _ _ _ h => h
                  (simp only [Act.put, List.setIfInBounds_toArray, List.set_cons_zero, List.set_cons_succ])
                  refine wpAnyH_take (i := 12) (oi := ?o75) (v := ?v75) ?hi75 (by kernel_rfl) (by kernel_rfl) (by kernel_rfl) ?hq75 ?hy75 (by assumption) ?hr75
                  case hi75 => (simp only [List.getElem?_toArray, List.getElem?_cons_succ, List.getElem?_cons_zero]; rfl)
                  case hy75 => ((refine .inl ⟨by rfl, ?_⟩); intro w hS; go_simp; (try (rw [if_neg (by (try simp only [ByteArray.size_append]); (try simp); omega)])); (try with_reducible rfl))
                  case hq75 => exact fun _ _ _ h => h
                  (simp only [Act.put, List.setIfInBounds_toArray, List.set_cons_zero, List.set_cons_succ])
                  refine wpAnyH_ready (rs := [17]) (by kernel_rfl) (by simp) ?_
                  refine AllReadyH.cons rfl (fun K hK => ?_) AllReadyH.nil
                  go_simp
                  go_wp2_with ((refine (CI.out _).mono ?_; rintro e w17 ⟨rfl, hb17⟩))
                  refine hK.out _ _ (St.call hb17 hHeld) (fun hHeld1 => ?_)
                  clear hK K
                  (try simp only [Act.put, List.setIfInBounds_toArray, List.set_cons_zero, List.set_cons_succ])
                  clear hHeld; have hHeld := hHeld1; clear hHeld1
                  refine wpAnyH_take (i := 18) (oi := ?o76) (v := ?v76) ?hi76 (by kernel_rfl) (by kernel_rfl) (by kernel_rfl) ?hq76 ?hy76 (by assumption) ?hr76
                  case hi76 => (simp only [List.getElem?_toArray, List.getElem?_cons_succ, List.getElem?_cons_zero]; rfl)
                  case hy76 => ((refine .inl ⟨by rfl, ?_⟩); intro w hS; go_simp; (try (rw [if_neg (by (try simp only [ByteArray.size_append]); (try simp); omega)])); (try with_reducible rfl))
                  case hq76 => exact fun _ _ _ h => h
                  (simp only [Act.put, List.setIfInBounds_toArray, List.set_cons_zero, List.set_cons_succ])
                  refine wpAnyH_take (i := 19) (oi := ?o77) (v := ?v77) ?hi77 (by kernel_rfl) (by kernel_rfl) (by kernel_rfl) ?hq77 ?hy77 (by assumption) ?hr77
                  case hi77 => (simp only [List.getElem?_toArray, List.getElem?_cons_succ, List.getElem?_cons_zero]; rfl)
                  case hy77 => ((refine .inl ⟨by rfl, ?_⟩); intro w hS; go_simp; (try with_reducible rfl))
                  case hq77 => exact fun _ _ _ h => h
                  (simp only [Act.put, List.setIfInBounds_toArray, List.set_cons_zero, List.set_cons_succ])
                  refine wpAnyH_done (by kernel_rfl) ?_ _
                  have hb9 := hHeld.bel
                  clear hHeld
                  go_wp2_with fail
                  go_roundw
                  case rel => exact ⟨j + 1, by omega, by omega, by go_num, by rw [← HB3.out], hb9⟩
                  case measure => simp [intOf]; omega
                · skip
                  go_simp
                  go_wp2_with ((refine (CI.out _).mono ?_; rintro e w17 ⟨rfl, hb17⟩))
                  refine hK.out _ _ (St.call hb17 hHeld) (fun hHeld1 => ?_)
                  clear hK K
                  (try simp only [Act.put, List.setIfInBounds_toArray, List.set_cons_zero, List.set_cons_succ])
                  clear hHeld; have hHeld := hHeld1; clear hHeld1
                  refine wpAnyH_ready (rs := [8]) (by kernel_rfl) (by simp) ?_
                  refine AllReadyH.cons rfl (fun K hK => ?_) AllReadyH.nil
                  go_simp
                  refine hK.out _ _ (St.other hHeld _) (fun hHeld1 => ?_)
                  clear hK K
                  (try simp only [Act.put, List.setIfInBounds_toArray, List.set_cons_zero, List.set_cons_succ])
                  refine wpAnyH_row0 (hHeld.new (g := w17.heap.size) rfl #[.int .u8 145, .int .u8 (qb.toNat : Int), .int .u8 1, .int .u8 0] 5) (fun hHeld2 => ?_)
                  clear hHeld hHeld1; have hHeld := hHeld2; clear hHeld2
                  refine wpAnyH_take (i := 9) (oi := ?o78) (v := ?v78) ?hi78 (by kernel_rfl) (by kernel_rfl) (by kernel_rfl) ?hq78 ?hy78 (by assumption) ?hr78
                  case hi78 => (simp only [List.getElem?_toArray, List.getElem?_cons_succ, List.getElem?_cons_zero]; rfl)
                  case hy78 => ((refine .inl ⟨by rfl, ?_⟩); intro w hS; have q := run_bytes_row (cap := 4) Try.underlying35 Try.underlying5 Try.underlying9 [145, qb, 1, 0] (hS.at (i := 0) rfl) rfl 4 rfl; go_simp; (try with_reducible rfl))
                  case hq78 => exact fun _ _ _ h => h
                  (simp only [Act.put, List.setIfInBounds_toArray, List.set_cons_zero, List.set_cons_succ])
                  refine wpAnyH_take (i := 10) (oi := ?o79) (v := ?v79) ?hi79 (by kernel_rfl) (by kernel_rfl) (by kernel_rfl) ?hq79 ?hy79 (by assumption) ?hr79
                  case hi79 => (simp only [List.getElem?_toArray, List.getElem?_cons_succ, List.getElem?_cons_zero]; rfl)
                  case hy79 => ((refine .inl ⟨by rfl, ?_⟩); intro w hS; go_simp; (try (rw [if_neg (by (try simp only [ByteArray.size_append]); (try simp); omega)])); (try with_reducible rfl))
                  case hq79 => exact fun _ _ _ h => h
                  (simp only [Act.put, List.setIfInBounds_toArray, List.set_cons_zero, List.set_cons_succ])
                  refine wpAnyH_take (i := 12) (oi := ?o80) (v := ?v80) ?hi80 (by kernel_rfl) (by kernel_rfl) (by kernel_rfl) ?hq80 ?hy80 (by assumption) ?hr80
                  case hi80 => (simp only [List.getElem?_toArray, List.getElem?_cons_succ, List.getElem?_cons_zero]; rfl)
                  case hy80 => ((refine .inl ⟨by rfl, ?_⟩); intro w hS; go_simp; (try (rw [if_neg (by (try simp only [ByteArray.size_append]); (try simp); omega)])); (try with_reducible rfl))
                  case hq80 => exact fun _ _ _ h => h
                  (simp only [Act.put, List.setIfInBounds_toArray, List.set_cons_zero, List.set_cons_succ])
                  refine wpAnyH_take (i := 18) (oi := ?o81) (v := ?v81) ?hi81 (by kernel_rfl) (by kernel_rfl) (by kernel_rfl) ?hq81 ?hy81 (by assumption) ?hr81
                  case hi81 => (simp only [List.getElem?_toArray, List.getElem?_cons_succ, List.getElem?_cons_zero]; rfl)
                  case hy81 => ((refine .inl ⟨by rfl, ?_⟩); intro w hS; go_simp; (try (rw [if_neg (by (try simp only [ByteArray.size_append]); (try simp); omega)])); (try with_reducible rfl))
                  case hq81 => exact fun _ _ _ h => h
                  (simp only [Act.put, List.setIfInBounds_toArray, List.set_cons_zero, List.set_cons_succ])
                  refine wpAnyH_take (i := 19) (oi := ?o82) (v := ?v82) ?hi82 (by kernel_rfl) (by kernel_rfl) (by kernel_rfl) ?hq82 ?hy82 (by assumption) ?hr82
                  case hi82 => (simp only [List.getElem?_toArray, List.getElem?_cons_succ, List.getElem?_cons_zero]; rfl)
                  case hy82 => ((refine .inl ⟨by rfl, ?_⟩); intro w hS; go_simp; (try with_reducible rfl))
                  case hq82 => exact fun _ _ _ h => h
                  (simp only [Act.put, List.setIfInBounds_toArray, List.set_cons_zero, List.set_cons_succ])
                  refine wpAnyH_done (by kernel_rfl) ?_ _
                  have hb9 := hHeld.bel
                  clear hHeld
                  go_wp2_with fail
                  go_roundw
                  case rel => exact ⟨j + 1, by omega, by omega, by go_num, by rw [← HB3.out], hb9⟩
                  case measure => simp [intOf]; omega
            · have HK : Hid (kindOf k j = 144) := Lib.hid (by unfold kindOf; rw [if_neg hlast])
              have ej : ((j : Int) == (k : Int) - 1) = false := by rw [beq_eq_false_iff_ne]; omega
              have HB3 : Hid ((⟨(bodyUp l j).toArray⟩ : ByteArray) ++ ⟨#[144, qb, 1, 0]⟩ ++ ⟨(zs 28).toArray⟩ ++ ⟨(imgL ⟨ip, im, ig, is, il, ib⟩).toArray⟩ = ⟨(bodyUp l (j + 1)).toArray⟩) := Lib.hid (by
                rw [show (⟨#[144, qb, 1, 0]⟩ : ByteArray) = ⟨[144, qb, 1, 0].toArray⟩ from rfl, mk_append, mk_append, mk_append, bodyUp_snoc HX.out, HL.out]
                unfold partL
                rw [if_neg (by omega), HK.out]
                dsimp only
                rw [hdrL, hdrP, leB1 ip qb hqb, leB1 144 144 rfl]
                simp [leB12])
              clear HK hqb
              generalize (⟨(bodyUp l j).toArray⟩ : ByteArray) = SJ at *
              generalize (⟨(zs 28).toArray⟩ : ByteArray) = Z8 at *
              generalize (⟨(imgL ⟨ip, im, ig, is, il, ib⟩).toArray⟩ : ByteArray) = IJ at *
              have hSt : St w wr [] := ⟨hbel, fun r hr => (List.not_mem_nil hr).elim, List.Pairwise.nil⟩
              clear hbel
              go_upto_region 19 with fail
              refine wp_region_held_drew (S := (fun w' => St w w' [])) (by kernel_rfl) (hSt.drew) (fun hHeld => ?_)
              refine wpAnyH_take (i := 0) (oi := ?o29) (v := ?v29) ?hi29 (by kernel_rfl) (by kernel_rfl) (by kernel_rfl) ?hq29 ?hy29 (by assumption) ?hr29
              case hi29 => (simp only [List.getElem?_toArray, List.getElem?_cons_zero]; rfl)
              case hy29 => ((refine .inl ⟨by rfl, ?_⟩); intro w hS; go_simp; (try with_reducible rfl))
              case hq29 => exact fun _ _ _ h => h
              (simp only [Act.put, List.setIfInBounds_toArray, List.set_cons_zero, List.set_cons_succ])
              refine wpAnyH_take (i := 1) (oi := ?o30) (v := ?v30) ?hi30 (by kernel_rfl) (by kernel_rfl) (by kernel_rfl) ?hq30 ?hy30 (by assumption) ?hr30
              case hi30 => (simp only [List.getElem?_toArray, List.getElem?_cons_succ, List.getElem?_cons_zero]; rfl)
              case hy30 => ((refine .inl ⟨by rfl, ?_⟩); intro w hS; go_simp; (try with_reducible rfl))
              case hq30 => exact fun _ _ _ h => h
              (simp only [Act.put, List.setIfInBounds_toArray, List.set_cons_zero, List.set_cons_succ])
              refine wpAnyH_take (i := 2) (oi := ?o31) (v := ?v31) ?hi31 (by kernel_rfl) (by kernel_rfl) (by kernel_rfl) ?hq31 ?hy31 (by assumption) ?hr31
              case hi31 => (simp only [List.getElem?_toArray, List.getElem?_cons_succ, List.getElem?_cons_zero]; rfl)
              case hy31 => ((refine .inl ⟨by rfl, ?_⟩); intro w hS; go_simp; (try with_reducible rfl))
              case hq31 => exact fun _ _ _ h => h
              (simp only [Act.put, List.setIfInBounds_toArray, List.set_cons_zero, List.set_cons_succ])
              refine wpAnyH_take (i := 3) (oi := ?o32) (v := ?v32) ?hi32 (by kernel_rfl) (by kernel_rfl) (by kernel_rfl) ?hq32 ?hy32 (by assumption) ?hr32
              case hi32 => (simp only [List.getElem?_toArray, List.getElem?_cons_succ, List.getElem?_cons_zero]; rfl)
              case hy32 => ((refine .inl ⟨by rfl, ?_⟩); intro w hS; go_simp; (try with_reducible rfl))
              case hq32 => exact fun _ _ _ h => h
              (simp only [Act.put, List.setIfInBounds_toArray, List.set_cons_zero, List.set_cons_succ])
              refine wpAnyH_take (i := 4) (oi := ?o33) (v := ?v33) ?hi33 (by kernel_rfl) (by kernel_rfl) (by kernel_rfl) ?hq33 ?hy33 (by assumption) ?hr33
              case hi33 => (simp only [List.getElem?_toArray, List.getElem?_cons_succ, List.getElem?_cons_zero]; rfl)
              case hy33 => ((refine .inl ⟨by rfl, ?_⟩); intro w hS; go_simp; (try with_reducible rfl))
              case hq33 => exact fun _ _ _ h => h
              (simp only [Act.put, List.setIfInBounds_toArray, List.set_cons_zero, List.set_cons_succ])
              refine wpAnyH_take (i := 5) (oi := ?o34) (v := ?v34) ?hi34 (by kernel_rfl) (by kernel_rfl) (by kernel_rfl) ?hq34 ?hy34 (by assumption) ?hr34
              case hi34 => (simp only [List.getElem?_toArray, List.getElem?_cons_succ, List.getElem?_cons_zero]; rfl)
              case hy34 => ((refine .inl ⟨by rfl, ?_⟩); intro w hS; go_simp; (try with_reducible rfl))
              case hq34 => exact fun _ _ _ h => h
              (simp only [Act.put, List.setIfInBounds_toArray, List.set_cons_zero, List.set_cons_succ])
              refine wpAnyH_take (i := 6) (oi := ?o35) (v := ?v35) ?hi35 (by kernel_rfl) (by kernel_rfl) (by kernel_rfl) ?hq35 ?hy35 (by assumption) ?hr35
              case hi35 => (simp only [List.getElem?_toArray, List.getElem?_cons_succ, List.getElem?_cons_zero]; rfl)
              case hy35 => ((refine .inl ⟨by rfl, ?_⟩); intro w hS; obtain ⟨p0, p1, p2, p3, p4, p5⟩ := img_cells (HSL.out.below hS.bel) rfl HX.out; go_simp; (try with_reducible rfl))
              case hq35 => exact fun _ _ _ h => h
              (simp only [Act.put, List.setIfInBounds_toArray, List.set_cons_zero, List.set_cons_succ])
              refine wpAnyH_take (i := 7) (oi := ?o36) (v := ?v36) ?hi36 (by kernel_rfl) (by kernel_rfl) (by kernel_rfl) ?hq36 ?hy36 (by assumption) ?hr36
              case hi36 => (simp only [List.getElem?_toArray, List.getElem?_cons_succ, List.getElem?_cons_zero]; rfl)
              case hy36 => ((refine .inl ⟨by rfl, ?_⟩); intro w hS; go_simp; (try with_reducible rfl))
              case hq36 => exact fun _ _ _ h => h
              (simp only [Act.put, List.setIfInBounds_toArray, List.set_cons_zero, List.set_cons_succ])
              refine wpAnyH_take (i := 13) (oi := ?o37) (v := ?v37) ?hi37 (by kernel_rfl) (by kernel_rfl) (by kernel_rfl) ?hq37 ?hy37 (by assumption) ?hr37
              case hi37 => (simp only [List.getElem?_toArray, List.getElem?_cons_succ, List.getElem?_cons_zero]; rfl)
              case hy37 => ((refine .inl ⟨by rfl, ?_⟩); intro w hS; go_simp; (try with_reducible rfl))
              case hq37 => exact fun _ _ _ h => h
              (simp only [Act.put, List.setIfInBounds_toArray, List.set_cons_zero, List.set_cons_succ])
              refine wpAnyH_take (i := 14) (oi := ?o38) (v := ?v38) ?hi38 (by kernel_rfl) (by kernel_rfl) (by kernel_rfl) ?hq38 ?hy38 (by assumption) ?hr38
              case hi38 => (simp only [List.getElem?_toArray, List.getElem?_cons_succ, List.getElem?_cons_zero]; rfl)
              case hy38 => ((refine .inl ⟨by rfl, ?_⟩); intro w hS; go_simp; (try with_reducible rfl))
              case hq38 => exact fun _ _ _ h => h
              (simp only [Act.put, List.setIfInBounds_toArray, List.set_cons_zero, List.set_cons_succ])
              refine wpAnyH_take (i := 15) (oi := ?o39) (v := ?v39) ?hi39 (by kernel_rfl) (by kernel_rfl) (by kernel_rfl) ?hq39 ?hy39 (by assumption) ?hr39
              case hi39 => (simp only [List.getElem?_toArray, List.getElem?_cons_succ, List.getElem?_cons_zero]; rfl)
              case hy39 => ((refine .inl ⟨by rfl, ?_⟩); intro w hS; go_simp; (try with_reducible rfl))
              case hq39 => exact fun _ _ _ h => h
              (simp only [Act.put, List.setIfInBounds_toArray, List.set_cons_zero, List.set_cons_succ])
              refine wpAnyH_take (i := 16) (oi := ?o40) (v := ?v40) ?hi40 (by kernel_rfl) (by kernel_rfl) (by kernel_rfl) ?hq40 ?hy40 (by assumption) ?hr40
              case hi40 => (simp only [List.getElem?_toArray, List.getElem?_cons_succ, List.getElem?_cons_zero]; rfl)
              case hy40 => ((refine .inl ⟨by rfl, ?_⟩); intro w hS; obtain ⟨p0, p1, p2, p3, p4, p5⟩ := img_cells (HSL.out.below hS.bel) rfl HX.out; go_simp; (try with_reducible rfl))
              case hq40 => exact fun _ _ _ h => h
              (simp only [Act.put, List.setIfInBounds_toArray, List.set_cons_zero, List.set_cons_succ])
              refine wpAnyH_ready (rs := [8, 11]) (by kernel_rfl) (by simp) ?_
              refine AllReadyH.cons rfl (fun K hK => ?_) (AllReadyH.cons rfl (fun K hK => ?_) AllReadyH.nil)
              · skip
                go_simp
                refine hK.out _ _ (St.other hHeld _) (fun hHeld1 => ?_)
                clear hK K
                (try simp only [Act.put, List.setIfInBounds_toArray, List.set_cons_zero, List.set_cons_succ])
                refine wpAnyH_row0 (hHeld.new (g := wr.heap.size) rfl #[.int .u8 144, .int .u8 (qb.toNat : Int), .int .u8 1, .int .u8 0] 5) (fun hHeld2 => ?_)
                clear hHeld hHeld1; have hHeld := hHeld2; clear hHeld2
                refine wpAnyH_take (i := 9) (oi := ?o41) (v := ?v41) ?hi41 (by kernel_rfl) (by kernel_rfl) (by kernel_rfl) ?hq41 ?hy41 (by assumption) ?hr41
                case hi41 => (simp only [List.getElem?_toArray, List.getElem?_cons_succ, List.getElem?_cons_zero]; rfl)
                case hy41 => ((refine .inl ⟨by rfl, ?_⟩); intro w hS; have q := run_bytes_row (cap := 4) Try.underlying35 Try.underlying5 Try.underlying9 [144, qb, 1, 0] (hS.at (i := 0) rfl) rfl 4 rfl; go_simp; (try with_reducible rfl))
                case hq41 => exact fun _ _ _ h => h
                (simp only [Act.put, List.setIfInBounds_toArray, List.set_cons_zero, List.set_cons_succ])
                refine wpAnyH_take (i := 10) (oi := ?o42) (v := ?v42) ?hi42 (by kernel_rfl) (by kernel_rfl) (by kernel_rfl) ?hq42 ?hy42 (by assumption) ?hr42
                case hi42 => (simp only [List.getElem?_toArray, List.getElem?_cons_succ, List.getElem?_cons_zero]; rfl)
                case hy42 => ((refine .inl ⟨by rfl, ?_⟩); intro w hS; go_simp; (try (rw [if_neg (by (try simp only [ByteArray.size_append]); (try simp); omega)])); (try with_reducible rfl))
                case hq42 => exact fun _ _ _ h => h
                (simp only [Act.put, List.setIfInBounds_toArray, List.set_cons_zero, List.set_cons_succ])
                refine wpAnyH_ready (rs := [11]) (by kernel_rfl) (by simp) ?_
                refine AllReadyH.cons rfl (fun K hK => ?_) AllReadyH.nil
                go_simp
                go_wp2_with ((refine (CZ2.out _).mono ?_; rintro e w11 ⟨rfl, hb11⟩))
                refine hK.out _ _ (St.call hb11 hHeld) (fun hHeld1 => ?_)
                clear hK K
                (try simp only [Act.put, List.setIfInBounds_toArray, List.set_cons_zero, List.set_cons_succ])
                clear hHeld; have hHeld := hHeld1; clear hHeld1
                refine wpAnyH_take (i := 12) (oi := ?o43) (v := ?v43) ?hi43 (by kernel_rfl) (by kernel_rfl) (by kernel_rfl) ?hq43 ?hy43 (by assumption) ?hr43
                case hi43 => (simp only [List.getElem?_toArray, List.getElem?_cons_succ, List.getElem?_cons_zero]; rfl)
                case hy43 => ((refine .inl ⟨by rfl, ?_⟩); intro w hS; go_simp; (try (rw [if_neg (by (try simp only [ByteArray.size_append]); (try simp); omega)])); (try with_reducible rfl))
                case hq43 => exact fun _ _ _ h => h
                (simp only [Act.put, List.setIfInBounds_toArray, List.set_cons_zero, List.set_cons_succ])
                refine wpAnyH_ready (rs := [17]) (by kernel_rfl) (by simp) ?_
                refine AllReadyH.cons rfl (fun K hK => ?_) AllReadyH.nil
                go_simp
                go_wp2_with ((refine (CI.out _).mono ?_; rintro e w17 ⟨rfl, hb17⟩))
                refine hK.out _ _ (St.call hb17 hHeld) (fun hHeld1 => ?_)
                clear hK K
                (try simp only [Act.put, List.setIfInBounds_toArray, List.set_cons_zero, List.set_cons_succ])
                clear hHeld; have hHeld := hHeld1; clear hHeld1
                refine wpAnyH_take (i := 18) (oi := ?o44) (v := ?v44) ?hi44 (by kernel_rfl) (by kernel_rfl) (by kernel_rfl) ?hq44 ?hy44 (by assumption) ?hr44
                case hi44 => (simp only [List.getElem?_toArray, List.getElem?_cons_succ, List.getElem?_cons_zero]; rfl)
                case hy44 => ((refine .inl ⟨by rfl, ?_⟩); intro w hS; go_simp; (try (rw [if_neg (by (try simp only [ByteArray.size_append]); (try simp); omega)])); (try with_reducible rfl))
                case hq44 => exact fun _ _ _ h => h
                (simp only [Act.put, List.setIfInBounds_toArray, List.set_cons_zero, List.set_cons_succ])
                refine wpAnyH_take (i := 19) (oi := ?o45) (v := ?v45) ?hi45 (by kernel_rfl) (by kernel_rfl) (by kernel_rfl) ?hq45 ?hy45 (by assumption) ?hr45
                case hi45 => (simp only [List.getElem?_toArray, List.getElem?_cons_succ, List.getElem?_cons_zero]; rfl)
                case hy45 => ((refine .inl ⟨by rfl, ?_⟩); intro w hS; go_simp; (try with_reducible rfl))
                case hq45 => exact fun _ _ _ h => h
                (simp only [Act.put, List.setIfInBounds_toArray, List.set_cons_zero, List.set_cons_succ])
                refine wpAnyH_done (by kernel_rfl) ?_ _
                have hb9 := hHeld.bel
                clear hHeld
                go_wp2_with fail
                go_roundw
                case rel => exact ⟨j + 1, by omega, by omega, by go_num, by rw [← HB3.out], hb9⟩
                case measure => simp [intOf]; omega
              · skip
                go_simp
                go_wp2_with ((refine (CZ2.out _).mono ?_; rintro e w11 ⟨rfl, hb11⟩))
                refine hK.out _ _ (St.call hb11 hHeld) (fun hHeld1 => ?_)
                clear hK K
                (try simp only [Act.put, List.setIfInBounds_toArray, List.set_cons_zero, List.set_cons_succ])
                clear hHeld; have hHeld := hHeld1; clear hHeld1
                refine wpAnyH_ready (rs := [8, 17]) (by kernel_rfl) (by simp) ?_
                refine AllReadyH.cons rfl (fun K hK => ?_) (AllReadyH.cons rfl (fun K hK => ?_) AllReadyH.nil)
                · skip
                  go_simp
                  refine hK.out _ _ (St.other hHeld _) (fun hHeld1 => ?_)
                  clear hK K
                  (try simp only [Act.put, List.setIfInBounds_toArray, List.set_cons_zero, List.set_cons_succ])
                  refine wpAnyH_row0 (hHeld.new (g := w11.heap.size) rfl #[.int .u8 144, .int .u8 (qb.toNat : Int), .int .u8 1, .int .u8 0] 5) (fun hHeld2 => ?_)
                  clear hHeld hHeld1; have hHeld := hHeld2; clear hHeld2
                  refine wpAnyH_take (i := 9) (oi := ?o46) (v := ?v46) ?hi46 (by kernel_rfl) (by kernel_rfl) (by kernel_rfl) ?hq46 ?hy46 (by assumption) ?hr46
                  case hi46 => (simp only [List.getElem?_toArray, List.getElem?_cons_succ, List.getElem?_cons_zero]; rfl)
                  case hy46 => ((refine .inl ⟨by rfl, ?_⟩); intro w hS; have q := run_bytes_row (cap := 4) Try.underlying35 Try.underlying5 Try.underlying9 [144, qb, 1, 0] (hS.at (i := 0) rfl) rfl 4 rfl; go_simp; (try with_reducible rfl))
                  case hq46 => exact fun _ _ _ h => h
                  (simp only [Act.put, List.setIfInBounds_toArray, List.set_cons_zero, List.set_cons_succ])
                  refine wpAnyH_take (i := 10) (oi := ?o47) (v := ?v47) ?hi47 (by kernel_rfl) (by kernel_rfl) (by kernel_rfl) ?hq47 ?hy47 (by assumption) ?hr47
                  case hi47 => (simp only [List.getElem?_toArray, List.getElem?_cons_succ, List.getElem?_cons_zero]; rfl)
                  case hy47 => ((refine .inl ⟨by rfl, ?_⟩); intro w hS; go_simp; (try (rw [if_neg (by (try simp only [ByteArray.size_append]); (try simp); omega)])); (try with_reducible rfl))
                  case hq47 => exact fun _ _ _ h => h
                  (simp only [Act.put, List.setIfInBounds_toArray, List.set_cons_zero, List.set_cons_succ])
                  refine wpAnyH_take (i := 12) (oi := ?o48) (v := ?v48) ?hi48 (by kernel_rfl) (by kernel_rfl) (by kernel_rfl) ?hq48 ?hy48 (by assumption) ?hr48
                  case hi48 => (simp only [List.getElem?_toArray, List.getElem?_cons_succ, List.getElem?_cons_zero]; rfl)
                  case hy48 => ((refine .inl ⟨by rfl, ?_⟩); intro w hS; go_simp; (try (rw [if_neg (by (try simp only [ByteArray.size_append]); (try simp); omega)])); (try with_reducible rfl))
                  case hq48 => exact fun _ _ _ h => h
                  (simp only [Act.put, List.setIfInBounds_toArray, List.set_cons_zero, List.set_cons_succ])
                  refine wpAnyH_ready (rs := [17]) (by kernel_rfl) (by simp) ?_
                  refine AllReadyH.cons rfl (fun K hK => ?_) AllReadyH.nil
                  go_simp
                  go_wp2_with ((refine (CI.out _).mono ?_; rintro e w17 ⟨rfl, hb17⟩))
                  refine hK.out _ _ (St.call hb17 hHeld) (fun hHeld1 => ?_)
                  clear hK K
                  (try simp only [Act.put, List.setIfInBounds_toArray, List.set_cons_zero, List.set_cons_succ])
                  clear hHeld; have hHeld := hHeld1; clear hHeld1
                  refine wpAnyH_take (i := 18) (oi := ?o49) (v := ?v49) ?hi49 (by kernel_rfl) (by kernel_rfl) (by kernel_rfl) ?hq49 ?hy49 (by assumption) ?hr49
                  case hi49 => (simp only [List.getElem?_toArray, List.getElem?_cons_succ, List.getElem?_cons_zero]; rfl)
                  case hy49 => ((refine .inl ⟨by rfl, ?_⟩); intro w hS; go_simp; (try (rw [if_neg (by (try simp only [ByteArray.size_append]); (try simp); omega)])); (try with_reducible rfl))
                  case hq49 => exact fun _ _ _ h => h
                  (simp only [Act.put, List.setIfInBounds_toArray, List.set_cons_zero, List.set_cons_succ])
                  refine wpAnyH_take (i := 19) (oi := ?o50) (v := ?v50) ?hi50 (by kernel_rfl) (by kernel_rfl) (by kernel_rfl) ?hq50 ?hy50 (by assumption) ?hr50
                  case hi50 => (simp only [List.getElem?_toArray, List.getElem?_cons_succ, List.getElem?_cons_zero]; rfl)
                  case hy50 => ((refine .inl ⟨by rfl, ?_⟩); intro w hS; go_simp; (try with_reducible rfl))
                  case hq50 => exact fun _ _ _ h => h
                  (simp only [Act.put, List.setIfInBounds_toArray, List.set_cons_zero, List.set_cons_succ])
                  refine wpAnyH_done (by kernel_rfl) ?_ _
                  have hb9 := hHeld.bel
                  clear hHeld
                  go_wp2_with fail
                  go_roundw
                  case rel => exact ⟨j + 1, by omega, by omega, by go_num, by rw [← HB3.out], hb9⟩
                  case measure => simp [intOf]; omega
                · skip
                  go_simp
                  go_wp2_with ((refine (CI.out _).mono ?_; rintro e w17 ⟨rfl, hb17⟩))
                  refine hK.out _ _ (St.call hb17 hHeld) (fun hHeld1 => ?_)
                  clear hK K
                  (try simp only [Act.put, List.setIfInBounds_toArray, List.set_cons_zero, List.set_cons_succ])
                  clear hHeld; have hHeld := hHeld1; clear hHeld1
                  refine wpAnyH_ready (rs := [8]) (by kernel_rfl) (by simp) ?_
                  refine AllReadyH.cons rfl (fun K hK => ?_) AllReadyH.nil
                  go_simp
                  refine hK.out _ _ (St.other hHeld _) (fun hHeld1 => ?_)
                  clear hK K
                  (try simp only [Act.put, List.setIfInBounds_toArray, List.set_cons_zero, List.set_cons_succ])
                  refine wpAnyH_row0 (hHeld.new (g := w17.heap.size) rfl #[.int .u8 144, .int .u8 (qb.toNat : Int), .int .u8 1, .int .u8 0] 5) (fun hHeld2 => ?_)
                  clear hHeld hHeld1; have hHeld := hHeld2; clear hHeld2
                  refine wpAnyH_take (i := 9) (oi := ?o51) (v := ?v51) ?hi51 (by kernel_rfl) (by kernel_rfl) (by kernel_rfl) ?hq51 ?hy51 (by assumption) ?hr51
                  case hi51 => (simp only [List.getElem?_toArray, List.getElem?_cons_succ, List.getElem?_cons_zero]; rfl)
                  case hy51 => ((refine .inl ⟨by rfl, ?_⟩); intro w hS; have q := run_bytes_row (cap := 4) Try.underlying35 Try.underlying5 Try.underlying9 [144, qb, 1, 0] (hS.at (i := 0) rfl) rfl 4 rfl; go_simp; (try with_reducible rfl))
                  case hq51 => exact fun _ _ _ h => h
                  (simp only [Act.put, List.setIfInBounds_toArray, List.set_cons_zero, List.set_cons_succ])
                  refine wpAnyH_take (i := 10) (oi := ?o52) (v := ?v52) ?hi52 (by kernel_rfl) (by kernel_rfl) (by kernel_rfl) ?hq52 ?hy52 (by assumption) ?hr52
                  case hi52 => (simp only [List.getElem?_toArray, List.getElem?_cons_succ, List.getElem?_cons_zero]; rfl)
                  case hy52 => ((refine .inl ⟨by rfl, ?_⟩); intro w hS; go_simp; (try (rw [if_neg (by (try simp only [ByteArray.size_append]); (try simp); omega)])); (try with_reducible rfl))
                  case hq52 => exact fun _ _ _ h => h
                  (simp only [Act.put, List.setIfInBounds_toArray, List.set_cons_zero, List.set_cons_succ])
                  refine wpAnyH_take (i := 12) (oi := ?o53) (v := ?v53) ?hi53 (by kernel_rfl) (by kernel_rfl) (by kernel_rfl) ?hq53 ?hy53 (by assumption) ?hr53
                  case hi53 => (simp only [List.getElem?_toArray, List.getElem?_cons_succ, List.getElem?_cons_zero]; rfl)
                  case hy53 => ((refine .inl ⟨by rfl, ?_⟩); intro w hS; go_simp; (try (rw [if_neg (by (try simp only [ByteArray.size_append]); (try simp); omega)])); (try with_reducible rfl))
                  case hq53 => exact fun _ _ _ h => h
                  (simp only [Act.put, List.setIfInBounds_toArray, List.set_cons_zero, List.set_cons_succ])
                  refine wpAnyH_take (i := 18) (oi := ?o54) (v := ?v54) ?hi54 (by kernel_rfl) (by kernel_rfl) (by kernel_rfl) ?hq54 ?hy54 (by assumption) ?hr54
                  case hi54 => (simp only [List.getElem?_toArray, List.getElem?_cons_succ, List.getElem?_cons_zero]; rfl)
                  case hy54 => ((refine .inl ⟨by rfl, ?_⟩); intro w hS; go_simp; (try (rw [if_neg (by (try simp only [ByteArray.size_append]); (try simp); omega)])); (try with_reducible rfl))
                  case hq54 => exact fun _ _ _ h => h
                  (simp only [Act.put, List.setIfInBounds_toArray, List.set_cons_zero, List.set_cons_succ])
                  refine wpAnyH_take (i := 19) (oi := ?o55) (v := ?v55) ?hi55 (by kernel_rfl) (by kernel_rfl) (by kernel_rfl) ?hq55 ?hy55 (by assumption) ?hr55
                  case hi55 => (simp only [List.getElem?_toArray, List.getElem?_cons_succ, List.getElem?_cons_zero]; rfl)
                  case hy55 => ((refine .inl ⟨by rfl, ?_⟩); intro w hS; go_simp; (try with_reducible rfl))
                  case hq55 => exact fun _ _ _ h => h
                  (simp only [Act.put, List.setIfInBounds_toArray, List.set_cons_zero, List.set_cons_succ])
                  refine wpAnyH_done (by kernel_rfl) ?_ _
                  have hb9 := hHeld.bel
                  clear hHeld
                  go_wp2_with fail
                  go_roundw
                  case rel => exact ⟨j + 1, by omega, by omega, by go_num, by rw [← HB3.out], hb9⟩
                  case measure => simp [intOf]; omega
          · obtain rfl : j = k := by omega
            have hge2 : ¬ (j : Int) < (j : Int) := by omega
            have hsz : (⟨(bodyUp l j).toArray⟩ : ByteArray).size = 64 * j := by rw [one_size _ _ rfl]; exact HBL.out j (by omega)
            have CZ3 := Lib.hid (fun w => rzeros_any (2048 - 64 * j) w (by omega))
            have HF : Hid ((⟨(bodyUp l j).toArray⟩ : ByteArray) ++ ⟨(zs (2048 - 64 * j)).toArray⟩ = encStr l) := Lib.hid (by rw [mk_append, HEN.out])
            obtain ⟨zn, hzn⟩ : ∃ zn, 2048 - 64 * j = zn := ⟨_, rfl⟩
            rw [hzn] at CZ3 HF
            have hz9 : (⟨(zs zn).toArray⟩ : ByteArray).size ≤ 2048 := by rw [one_size _ _ (zs_length zn)]; omega
            generalize (⟨(bodyUp l j).toArray⟩ : ByteArray) = SJ at *
            generalize (⟨(zs zn).toArray⟩ : ByteArray) = Z9 at *
            have hs9 : SJ.size ≤ 2048 := by omega
            have e9 : (2048 : Int) - (SJ.size : Int) = (zn : Int) := by omega
            clear hzn hsz
            go_wp2_with fail
            refine (CZ3.out _).mono ?_
            rintro e w9 ⟨rfl, hb9⟩
            go_wp2_with fail
            go_ret2
            exact ⟨by rw [← HF.out, HE.out]; rfl, hbel.trans (hb9.mono hbel.size)⟩
theorem rencode_any (A : Option Addr) (c : Nat) (l : List Img) (w : World) (hs : SlAt w w.heap.size A (flat encI l)) :
    Calls Try.prog 12 #[.slice A l.length c] w (EncR l w) := by
  by_cases h0 : l.length = 0
  · obtain rfl := List.eq_nil_of_length_eq_zero h0
    exact renc_empty A c w
  · by_cases h1 : 32 < l.length
    · exact renc_many A c l w h1
    · exact renc_go A c l w hs (by omega) (by omega)
end Go.Proofs.Ytjlppndlgdgekaa
