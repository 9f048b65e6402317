/-
  The walk of the law EltoritoSections.
-/
import Derived.Test.YtjlppndlgdgekaaLaw1
import Derived.Test.YtjlppndlgdgekaaSecP
import Derived.Test.YtjlppndlgdgekaaHeld
import Derived.Deep.Cut
import Derived.Deep.RegionWith
namespace Go.Proofs.Ytjlppndlgdgekaa
open Go.RowKit
set_option linter.unusedVariables false

theorem encS_img {l : List Img} {S : ByteArray} (hd : S.data.toList = encL l) {j : Nat} {x : Img} (hx : l[j]? = some x) : S.extract (32 + 64 * j) (64 + 64 * j) = ⟨(imgL x).toArray⟩ := by
  have h := encL_img hx
  have : (S.extract (32 + 64 * j) (64 + 64 * j)).data.toList = imgL x := by
    rw [ext_data, hd, ← h]
    unfold entAt
    rw [show 32 * (2 * j + 1) = 32 + 64 * j by omega, show 64 + 64 * j - (32 + 64 * j) = 32 by omega]
  rw [← this]
theorem encS_head {l : List Img} {S : ByteArray} (hd : S.data.toList = encL l) {x : Img} (hx : l[0]? = some x) : S.extract 0 64 = ⟨(valL x.plat ++ imgL x).toArray⟩ := by
  have h := encL_part hx
  rw [Nat.mul_zero, List.drop_zero, part_first] at h
  have : (S.extract 0 64).data.toList = valL x.plat ++ imgL x := by
    rw [ext_data, hd, List.drop_zero, show 64 - 0 = 64 from rfl, h]
  rw [← this]
def secB (x0 : Img) (Q : List (List UInt8)) : ByteArray := ⟨(valL x0.plat ++ imgL x0 ++ Q.flatten).toArray⟩
theorem secB_size {x0 : Img} (h : ImOk x0) {Q : List (List UInt8)} (hQ : ∀ e ∈ Q, e.length = 32) : (secB x0 Q).size = 64 + 32 * Q.length := by
  obtain ⟨_, _, _, v3⟩ := valL_ok h.plat
  show (valL x0.plat ++ imgL x0 ++ Q.flatten).toArray.size = _
  rw [List.size_toArray, List.length_append, List.length_append, v3, imgL_length, flatten_len Q hQ]
theorem secB_snoc (x0 : Img) (Q : List (List UInt8)) (e : List UInt8) : secB x0 Q ++ ⟨e.toArray⟩ = secB x0 (Q ++ [e]) := by
  unfold secB
  rw [mk_append]
  simp

set_option maxHeartbeats 4000000 in
set_option maxRecDepth 100000 in
theorem sec_ok (A : Option Addr) (n cap : Nat) (l : List Img) (w : World) (hl : l.length = n) (hsl : SlAt w w.heap.size A (flat encI l)) (hE : encE l = 0) (hS : encStr l = ⟨(encL l).toArray⟩) (h2 : 2 ≤ n) (h20 : n ≤ 20) (hok : ∀ x ∈ l, ImOk x)
    (CE : ∀ wx, Below w.heap.size w wx → Calls Try.prog 11 #[.slice A n cap] wx (EncR l wx)) :
    Calls Try.prog 6 #[.slice A n cap] w fun e w' => e = .returned (.bool true) ∧ Below w.heap.size w w' := by
  obtain ⟨S, hSS⟩ : ∃ S : ByteArray, S = ⟨(encL l).toArray⟩ := ⟨_, rfl⟩
  have hd : S.data.toList = encL l := by rw [hSS]
  have hsz : S.size = 2048 := by rw [hSS]; exact encS_size (by omega)
  obtain ⟨b, off, rfl, hb, -⟩ := hsl.one (by rw [flat_length encI_length]; omega)
  have HSL := Lib.hid hsl
  have HL := Lib.hid hl
  have HD := Lib.hid hd
  have HOK : Hid (∀ x ∈ l, ImOk x) := hok
  obtain ⟨x0, hx0⟩ : ∃ x, l[0]? = some x := ⟨l[0], List.getElem?_eq_getElem _⟩
  have HX0 := Lib.hid hx0
  have hx0k := hok x0 (List.mem_of_getElem? hx0)
  have HES : Hid (encStr l = S) := Lib.hid (by rw [hS, hSS])
  have HEE := Lib.hid hE
  have HCE := Lib.hid CE
  have HT0 : Hid (S.extract 0 64 = secB x0 []) := Lib.hid (by rw [encS_head hd hx0]; simp [secB])
  have HI0 : Hid (SecI l x0 1 []) := Lib.hid (SecI.start hx0 (by omega))
  have HZB := Lib.hid (fun Q => secB_size hx0k (Q := Q))
  have hszI : (S.size : Int) = 2048 := by omega
  have hn20 : ¬ (20 : Int) < (n : Int) := by omega
  have hn2 : ¬ (n : Int) < 2 := by omega
  have CZ := Lib.hid (fun w => zeros_any 28 w (by omega))
  clear hSS hd hsz hS hE CE hok hx0 hsl hx0k hl
  go_enter Try.func6, Try.ntmps6
  go_wp2_with fail
  refine (awake_any _).mono ?_
  rintro e w0 ⟨rfl, hb0⟩
  go_wp2_with fail
  refine (HCE.out _ hb0).mono ?_
  rintro e w1 ⟨rfl, hb1⟩
  rw [HES.out, HEE.out]
  have hbel := hb0.trans (hb1.mono hb0.size)
  clear hb0 hb1
  go_wp2_with fail
  rw [HT0.out]
  clear hn2 hn20
  go_loopw [5, 6] (fun t i wr => ∃ (j : Nat) (P : List (List UInt8)), 1 ≤ j ∧ j ≤ n ∧ i = .int .i64 j ∧ t = .string (secB x0 P) ∧ Hid (SecI l x0 j P) ∧ Below w.heap.size w wr) (fun _ i _ => n - (intOf i).toNat)
  case atStart => exact ⟨1, [], by omega, by omega, rfl, rfl, HI0, hbel⟩
  case round =>
    clear hbel
    obtain ⟨j, P, hj1, hj, rfl, rfl, HI, hbel⟩ := hrel
    obtain ⟨wo, rfl⟩ : ∃ wo : World, wo = wr := ⟨_, rfl⟩
    by_cases hlt : j < n
    · obtain ⟨x, hx⟩ : ∃ x, l[j]? = some x := ⟨l[j]'(by rw [HL.out]; exact hlt), List.getElem?_eq_getElem _⟩
      have HX := Lib.hid hx
      have hltI : (j : Int) < (n : Int) := by omega
      have h0j : (0 : Int) ≤ (j : Int) := by omega
      obtain ⟨q, hq⟩ : ∃ q, x.plat = q := ⟨_, rfl⟩
      have HQ := Lib.hid hq
      clear hx hq
      go_upto_block 2 with fail
      go_cut [7] from 40 to 58 (fun x wx => ∃ k : Nat, j < k ∧ k ≤ n ∧ Hid (∀ m y, j ≤ m → m < k → l[m]? = some y → y.plat = q) ∧ x = .int .i64 k ∧ Below w.heap.size w wx)
      case first =>
        go_wp2_with fail
        go_loopw [7] (fun x wr => ∃ k : Nat, j ≤ k ∧ k ≤ n ∧ Hid (∀ m y, j ≤ m → m < k → l[m]? = some y → y.plat = q) ∧ x = .int .i64 k ∧ Below w.heap.size w wr) (fun x _ => n - (intOf x).toNat)
        case atStart => exact ⟨j, by omega, by omega, Lib.hid (fun m y a b => absurd b (by omega)), rfl, hbel⟩
        case round =>
          clear hbel
          obtain ⟨k, hk1, hk, HPL, rfl, hbel⟩ := hrel
          obtain ⟨q0, _, _, _, _, _⟩ := img_cells (HSL.out.below hbel) rfl HX.out
          rw [HQ.out] at q0
          by_cases hkn : k < n
          · obtain ⟨y, hy⟩ : ∃ y, l[k]? = some y := ⟨l[k]'(by rw [HL.out]; exact hkn), List.getElem?_eq_getElem _⟩
            obtain ⟨p0, _, _, _, _, _⟩ := img_cells (HSL.out.below hbel) rfl hy
            have hkI : (k : Int) < (n : Int) := by omega
            have hk0 : (0 : Int) ≤ (k : Int) := by omega
            by_cases hpq : y.plat = q
            · have HPL1 : Hid (∀ m z, j ≤ m → m < k + 1 → l[m]? = some z → z.plat = q) := Lib.hid (fun m z a c hz => by
                rcases Nat.lt_or_ge m k with h | h
                · exact HPL.out m z a h hz
                · obtain rfl : m = k := by omega
                  rw [hy] at hz
                  injection hz with hz
                  rw [← hz]; exact hpq)
              rw [hpq] at p0
              have hpb : (q == q) = true := by rw [beq_iff_eq]
              clear hpq hy HPL
              go_upto_region 12 with fail
              go_quiet (fail)
              go_wp2_with fail
              go_roundw
              case rel => exact ⟨k + 1, by omega, by omega, HPL1, by go_num, below_drewN hbel _⟩
              case measure => simp [intOf]; omega
            · have hpb : (y.plat == q) = false := by rw [beq_eq_false_iff_ne]; exact hpq
              have hjk : j < k := by
                rcases Nat.lt_or_ge j k with h | h
                · exact h
                · obtain rfl : j = k := by omega
                  rw [HX.out] at hy
                  injection hy with hy
                  exact absurd (by rw [← hy]; exact HQ.out) hpq
              clear hpq hy
              generalize y.plat = yp at *
              go_upto_region 12 with fail
              go_quiet (fail)
              go_wp2_with fail
              go_meet
              exact ⟨k, hjk, hk, HPL, rfl, below_drewN hbel _⟩
          · obtain rfl : k = n := by omega
            have hgeb : decide ((k : Int) < (k : Int)) = false := decide_eq_false (by omega)
            go_upto_region 12 with fail
            go_quiet (fail)
            go_wp2_with fail
            go_meet
            exact ⟨k, hlt, hk, HPL, rfl, below_drewN hbel _⟩
      case rest =>
        clear hbel
        obtain ⟨k, hjk, hk, HPL, rfl, hbel2⟩ := hcut
        have hq' : q = 0 ∨ q = 1 ∨ q = 2 ∨ q = 239 := platB_cases (by rw [← HQ.out]; exact (HOK.out x (List.mem_of_getElem? HX.out)).plat)
        obtain ⟨qb, hqb, -⟩ := byte_ex (n := q) (by omega) (by omega)
        obtain ⟨nb, hnb, -⟩ := byte_ex (n := (k : Int) - (j : Int)) (by omega) (by omega)
        have hPn : P.length ≤ 60 := by have := HI.out.cnt; omega
        clear hq'
        by_cases hkn : k = n
        · have ek : ((k : Int) == (n : Int)) = true := by rw [beq_iff_eq]; omega
          have HB : Hid (secB x0 P ++ (⟨#[145, qb, nb, 0]⟩ ++ ⟨(zs 28).toArray⟩) = secB x0 (P ++ hdrB 145 qb nb :: ((l.drop j).take (j - j)).map imgL)) := Lib.hid (by
            rw [show (⟨#[145, qb, nb, 0]⟩ : ByteArray) = ⟨[145, qb, nb, 0].toArray⟩ from rfl, mk_append [145, qb, nb, 0] (zs 28), secB_snoc, Nat.sub_self, List.take_zero, List.map_nil]
            rfl)
          have HSI : Hid (SecI l x0 k (P ++ hdrB 145 qb nb :: ((l.drop j).take (k - j)).map imgL)) := Lib.hid (HI.out.step HOK.out hj1 hjk (by rw [HL.out]; exact hk) HPL.out (by rw [if_pos (by rw [HL.out]; exact hkn)]; rfl) hqb.symm hnb.symm)
          have HLN : Hid (∀ e ∈ P ++ hdrB 145 qb nb :: ((l.drop j).take (k - j)).map imgL, e.length = 32) := Lib.hid HSI.out.len
          have hSt : St w wc [] := ⟨hbel2, fun r hr => (List.not_mem_nil hr).elim, List.Pairwise.nil⟩
          have hz1 : (secB x0 P).size ≤ 10000 := by rw [HZB.out P HI.out.len]; omega
          have hz2 : (⟨(zs 28).toArray⟩ : ByteArray).size ≤ 100 := by rw [one_size _ _ (zs_length 28)]; omega
          generalize (⟨(zs 28).toArray⟩ : ByteArray) = Z8 at *
          clear hbel2
          have hnbw : IntKind.u8.wrap ((k : Int) - (j : Int)) = (nb.toNat : Int) := by rw [hnb]; exact byte_wrap nb
          have hqw : IntKind.u8.wrap q = (qb.toNat : Int) := by rw [hqb]; exact byte_wrap qb
          have HNB := Lib.hid hnb
          have HQB := Lib.hid hqb
          clear hnb hqb hkn
          have ekj : IntKind.i64.wrap ((k : Int) - (j : Int)) = (k : Int) - (j : Int) := IntWalk.i64_in _ (by omega)
          go_upto_region 17 with fail
          go_cut [5] from 63 to 79 (fun x wx => x = .string (secB x0 (P ++ hdrB 145 qb nb :: ((l.drop j).take (j - j)).map imgL)) ∧ Below w.heap.size w wx)
          case first =>
            refine wp_region_held_drew (S := (fun w' => St w w' [])) (by kernel_rfl) (hSt.drew) (fun hHeld => ?_)
            refine wpAnyH_take (i := 0) (oi := ?o21) (v := ?v21) ?hi21 (by kernel_rfl) (by kernel_rfl) (by kernel_rfl) ?hq21 ?hy21 (by assumption) ?hr21
            case hi21 => (simp only [List.getElem?_toArray, List.getElem?_cons_zero]; rfl)
            case hy21 => ((refine .inl ⟨by rfl, ?_⟩); intro w hS; go_simp; (try with_reducible rfl))
            case hq21 => exact fun _ _ _ h => h
            (simp only [Act.put, List.setIfInBounds_toArray, List.set_cons_zero, List.set_cons_succ])
            refine wpAnyH_take (i := 1) (oi := ?o22) (v := ?v22) ?hi22 (by kernel_rfl) (by kernel_rfl) (by kernel_rfl) ?hq22 ?hy22 (by assumption) ?hr22
            case hi22 => (simp only [List.getElem?_toArray, List.getElem?_cons_succ, List.getElem?_cons_zero]; rfl)
            case hy22 => ((refine .inl ⟨by rfl, ?_⟩); intro w hS; go_simp; (try with_reducible rfl))
            case hq22 => exact fun _ _ _ h => h
            (simp only [Act.put, List.setIfInBounds_toArray, List.set_cons_zero, List.set_cons_succ])
            refine wpAnyH_take (i := 2) (oi := ?o23) (v := ?v23) ?hi23 (by kernel_rfl) (by kernel_rfl) (by kernel_rfl) ?hq23 ?hy23 (by assumption) ?hr23
            case hi23 => (simp only [List.getElem?_toArray, List.getElem?_cons_succ, List.getElem?_cons_zero]; rfl)
            case hy23 => ((refine .inl ⟨by rfl, ?_⟩); intro w hS; go_simp; (try with_reducible rfl))
            case hq23 => exact fun _ _ _ h => h
            (simp only [Act.put, List.setIfInBounds_toArray, List.set_cons_zero, List.set_cons_succ])
            refine wpAnyH_take (i := 3) (oi := ?o24) (v := ?v24) ?hi24 (by kernel_rfl) (by kernel_rfl) (by kernel_rfl) ?hq24 ?hy24 (by assumption) ?hr24
            case hi24 => (simp only [List.getElem?_toArray, List.getElem?_cons_succ, List.getElem?_cons_zero]; rfl)
            case hy24 => ((refine .inl ⟨by rfl, ?_⟩); intro w hS; go_simp; (try with_reducible rfl))
            case hq24 => exact fun _ _ _ h => h
            (simp only [Act.put, List.setIfInBounds_toArray, List.set_cons_zero, List.set_cons_succ])
            refine wpAnyH_take (i := 4) (oi := ?o25) (v := ?v25) ?hi25 (by kernel_rfl) (by kernel_rfl) (by kernel_rfl) ?hq25 ?hy25 (by assumption) ?hr25
            case hi25 => (simp only [List.getElem?_toArray, List.getElem?_cons_succ, List.getElem?_cons_zero]; rfl)
            case hy25 => ((refine .inl ⟨by rfl, ?_⟩); intro w hS; go_simp; (try with_reducible rfl))
            case hq25 => exact fun _ _ _ h => h
            (simp only [Act.put, List.setIfInBounds_toArray, List.set_cons_zero, List.set_cons_succ])
            refine wpAnyH_take (i := 5) (oi := ?o26) (v := ?v26) ?hi26 (by kernel_rfl) (by kernel_rfl) (by kernel_rfl) ?hq26 ?hy26 (by assumption) ?hr26
            case hi26 => (simp only [List.getElem?_toArray, List.getElem?_cons_succ, List.getElem?_cons_zero]; rfl)
            case hy26 => ((refine .inl ⟨by rfl, ?_⟩); intro w hS; go_simp; (try with_reducible rfl))
            case hq26 => exact fun _ _ _ h => h
            (simp only [Act.put, List.setIfInBounds_toArray, List.set_cons_zero, List.set_cons_succ])
            refine wpAnyH_take (i := 6) (oi := ?o27) (v := ?v27) ?hi27 (by kernel_rfl) (by kernel_rfl) (by kernel_rfl) ?hq27 ?hy27 (by assumption) ?hr27
            case hi27 => (simp only [List.getElem?_toArray, List.getElem?_cons_succ, List.getElem?_cons_zero]; rfl)
            case hy27 => ((refine .inl ⟨by rfl, ?_⟩); intro w hS; obtain ⟨p0, p1, p2, p3, p4, p5⟩ := img_cells (HSL.out.below hS.bel) rfl HX.out; rw [HQ.out] at p0; go_simp; (try with_reducible rfl))
            case hq27 => exact fun _ _ _ h => h
            (simp only [Act.put, List.setIfInBounds_toArray, List.set_cons_zero, List.set_cons_succ])
            refine wpAnyH_take (i := 7) (oi := ?o28) (v := ?v28) ?hi28 (by kernel_rfl) (by kernel_rfl) (by kernel_rfl) ?hq28 ?hy28 (by assumption) ?hr28
            case hi28 => (simp only [List.getElem?_toArray, List.getElem?_cons_succ, List.getElem?_cons_zero]; rfl)
            case hy28 => ((refine .inl ⟨by rfl, ?_⟩); intro w hS; go_simp; (try with_reducible rfl))
            case hq28 => exact fun _ _ _ h => h
            (simp only [Act.put, List.setIfInBounds_toArray, List.set_cons_zero, List.set_cons_succ])
            refine wpAnyH_take (i := 8) (oi := ?o29) (v := ?v29) ?hi29 (by kernel_rfl) (by kernel_rfl) (by kernel_rfl) ?hq29 ?hy29 (by assumption) ?hr29
            case hi29 => (simp only [List.getElem?_toArray, List.getElem?_cons_succ, List.getElem?_cons_zero]; rfl)
            case hy29 => ((refine .inl ⟨by rfl, ?_⟩); intro w hS; go_simp; (try with_reducible rfl))
            case hq29 => exact fun _ _ _ h => h
            (simp only [Act.put, List.setIfInBounds_toArray, List.set_cons_zero, List.set_cons_succ])
            refine wpAnyH_take (i := 9) (oi := ?o30) (v := ?v30) ?hi30 (by kernel_rfl) (by kernel_rfl) (by kernel_rfl) ?hq30 ?hy30 (by assumption) ?hr30
            case hi30 => (simp only [List.getElem?_toArray, List.getElem?_cons_succ, List.getElem?_cons_zero]; rfl)
            case hy30 => ((refine .inl ⟨by rfl, ?_⟩); intro w hS; go_simp; (try with_reducible rfl))
            case hq30 => exact fun _ _ _ h => h
            (simp only [Act.put, List.setIfInBounds_toArray, List.set_cons_zero, List.set_cons_succ])
            refine wpAnyH_take (i := 10) (oi := ?o31) (v := ?v31) ?hi31 (by kernel_rfl) (by kernel_rfl) (by kernel_rfl) ?hq31 ?hy31 (by assumption) ?hr31
            case hi31 => (simp only [List.getElem?_toArray, List.getElem?_cons_succ, List.getElem?_cons_zero]; rfl)
            case hy31 => ((refine .inl ⟨by rfl, ?_⟩); intro w hS; go_simp; (try with_reducible rfl))
            case hq31 => exact fun _ _ _ h => h
            (simp only [Act.put, List.setIfInBounds_toArray, List.set_cons_zero, List.set_cons_succ])
            refine wpAnyH_take (i := 11) (oi := ?o32) (v := ?v32) ?hi32 (by kernel_rfl) (by kernel_rfl) (by kernel_rfl) ?hq32 ?hy32 (by assumption) ?hr32
            case hi32 => (simp only [List.getElem?_toArray, List.getElem?_cons_succ, List.getElem?_cons_zero]; rfl)
            case hy32 => ((refine .inl ⟨by rfl, ?_⟩); intro w hS; go_simp; (try with_reducible rfl))
            case hq32 => exact fun _ _ _ h => h
            (simp only [Act.put, List.setIfInBounds_toArray, List.set_cons_zero, List.set_cons_succ])
            refine wpAnyH_ready (rs := [12, 14]) (by kernel_rfl) (by simp) ?_
            refine AllReadyH.cons rfl (fun K hK => ?_) (AllReadyH.cons rfl (fun K hK => ?_) AllReadyH.nil)
            · skip
              go_simp
              refine hK.out _ _ (St.other hHeld _) (fun hHeld1 => ?_)
              clear hK K
              (try simp only [Act.put, List.setIfInBounds_toArray, List.set_cons_zero, List.set_cons_succ])
              refine wpAnyH_row0 (hHeld.new (g := wc.heap.size) rfl #[.int .u8 145, .int .u8 (qb.toNat : Int), .int .u8 (nb.toNat : Int), .int .u8 0] 5) (fun hHeld2 => ?_)
              clear hHeld hHeld1; have hHeld := hHeld2; clear hHeld2
              refine wpAnyH_take (i := 13) (oi := ?o33) (v := ?v33) ?hi33 (by kernel_rfl) (by kernel_rfl) (by kernel_rfl) ?hq33 ?hy33 (by assumption) ?hr33
              case hi33 => (simp only [List.getElem?_toArray, List.getElem?_cons_succ, List.getElem?_cons_zero]; rfl)
              case hy33 => ((refine .inl ⟨by rfl, ?_⟩); intro w hS; have q := run_bytes_row (cap := 4) Try.underlying35 Try.underlying5 Try.underlying9 [145, qb, nb, 0] (hS.at (i := 0) rfl) rfl 4 rfl; go_simp; (try with_reducible rfl))
              case hq33 => exact fun _ _ _ h => h
              (simp only [Act.put, List.setIfInBounds_toArray, List.set_cons_zero, List.set_cons_succ])
              refine wpAnyH_ready (rs := [14]) (by kernel_rfl) (by simp) ?_
              refine AllReadyH.cons rfl (fun K hK => ?_) AllReadyH.nil
              go_simp
              go_wp2_with ((refine (CZ.out _).mono ?_; rintro e w14 ⟨rfl, hb14⟩))
              refine hK.out _ _ (St.call hb14 hHeld) (fun hHeld1 => ?_)
              clear hK K
              (try simp only [Act.put, List.setIfInBounds_toArray, List.set_cons_zero, List.set_cons_succ])
              clear hHeld; have hHeld := hHeld1; clear hHeld1
              refine wpAnyH_take (i := 15) (oi := ?o34) (v := ?v34) ?hi34 (by kernel_rfl) (by kernel_rfl) (by kernel_rfl) ?hq34 ?hy34 (by assumption) ?hr34
              case hi34 => (simp only [List.getElem?_toArray, List.getElem?_cons_succ, List.getElem?_cons_zero]; rfl)
              case hy34 => ((refine .inl ⟨by rfl, ?_⟩); intro w hS; go_simp; (try (rw [if_neg (by (try simp only [ByteArray.size_append]); (try simp); omega)])); (try with_reducible rfl))
              case hq34 => exact fun _ _ _ h => h
              (simp only [Act.put, List.setIfInBounds_toArray, List.set_cons_zero, List.set_cons_succ])
              refine wpAnyH_take (i := 16) (oi := ?o35) (v := ?v35) ?hi35 (by kernel_rfl) (by kernel_rfl) (by kernel_rfl) ?hq35 ?hy35 (by assumption) ?hr35
              case hi35 => (simp only [List.getElem?_toArray, List.getElem?_cons_succ, List.getElem?_cons_zero]; rfl)
              case hy35 => ((refine .inl ⟨by rfl, ?_⟩); intro w hS; go_simp; (try (rw [if_neg (by (try simp only [ByteArray.size_append]); (try simp); omega)])); (try with_reducible rfl))
              case hq35 => exact fun _ _ _ h => h
              (simp only [Act.put, List.setIfInBounds_toArray, List.set_cons_zero, List.set_cons_succ])
              refine wpAnyH_take (i := 17) (oi := ?o36) (v := ?v36) ?hi36 (by kernel_rfl) (by kernel_rfl) (by kernel_rfl) ?hq36 ?hy36 (by assumption) ?hr36
              case hi36 => (simp only [List.getElem?_toArray, List.getElem?_cons_succ, List.getElem?_cons_zero]; rfl)
              case hy36 => ((refine .inl ⟨by rfl, ?_⟩); intro w hS; go_simp; (try with_reducible rfl))
              case hq36 => exact fun _ _ _ h => h
              (simp only [Act.put, List.setIfInBounds_toArray, List.set_cons_zero, List.set_cons_succ])
              refine wpAnyH_done (by kernel_rfl) ?_ _
              go_wp2_with fail
              go_meet
              exact ⟨by rw [← HB.out], hHeld.bel⟩
            · skip
              go_simp
              go_wp2_with ((refine (CZ.out _).mono ?_; rintro e w14 ⟨rfl, hb14⟩))
              refine hK.out _ _ (St.call hb14 hHeld) (fun hHeld1 => ?_)
              clear hK K
              (try simp only [Act.put, List.setIfInBounds_toArray, List.set_cons_zero, List.set_cons_succ])
              clear hHeld; have hHeld := hHeld1; clear hHeld1
              refine wpAnyH_ready (rs := [12]) (by kernel_rfl) (by simp) ?_
              refine AllReadyH.cons rfl (fun K hK => ?_) AllReadyH.nil
              go_simp
              refine hK.out _ _ (St.other hHeld _) (fun hHeld1 => ?_)
              clear hK K
              (try simp only [Act.put, List.setIfInBounds_toArray, List.set_cons_zero, List.set_cons_succ])
              refine wpAnyH_row0 (hHeld.new (g := w14.heap.size) rfl #[.int .u8 145, .int .u8 (qb.toNat : Int), .int .u8 (nb.toNat : Int), .int .u8 0] 5) (fun hHeld2 => ?_)
              clear hHeld hHeld1; have hHeld := hHeld2; clear hHeld2
              refine wpAnyH_take (i := 13) (oi := ?o37) (v := ?v37) ?hi37 (by kernel_rfl) (by kernel_rfl) (by kernel_rfl) ?hq37 ?hy37 (by assumption) ?hr37
              case hi37 => (simp only [List.getElem?_toArray, List.getElem?_cons_succ, List.getElem?_cons_zero]; rfl)
              case hy37 => ((refine .inl ⟨by rfl, ?_⟩); intro w hS; have q := run_bytes_row (cap := 4) Try.underlying35 Try.underlying5 Try.underlying9 [145, qb, nb, 0] (hS.at (i := 0) rfl) rfl 4 rfl; go_simp; (try with_reducible rfl))
              case hq37 => exact fun _ _ _ h => h
              (simp only [Act.put, List.setIfInBounds_toArray, List.set_cons_zero, List.set_cons_succ])
              refine wpAnyH_take (i := 15) (oi := ?o38) (v := ?v38) ?hi38 (by kernel_rfl) (by kernel_rfl) (by kernel_rfl) ?hq38 ?hy38 (by assumption) ?hr38
              case hi38 => (simp only [List.getElem?_toArray, List.getElem?_cons_succ, List.getElem?_cons_zero]; rfl)
              case hy38 => ((refine .inl ⟨by rfl, ?_⟩); intro w hS; go_simp; (try (rw [if_neg (by (try simp only [ByteArray.size_append]); (try simp); omega)])); (try with_reducible rfl))
              case hq38 => exact fun _ _ _ h => h
              (simp only [Act.put, List.setIfInBounds_toArray, List.set_cons_zero, List.set_cons_succ])
              refine wpAnyH_take (i := 16) (oi := ?o39) (v := ?v39) ?hi39 (by kernel_rfl) (by kernel_rfl) (by kernel_rfl) ?hq39 ?hy39 (by assumption) ?hr39
              case hi39 => (simp only [List.getElem?_toArray, List.getElem?_cons_succ, List.getElem?_cons_zero]; rfl)
              case hy39 => ((refine .inl ⟨by rfl, ?_⟩); intro w hS; go_simp; (try (rw [if_neg (by (try simp only [ByteArray.size_append]); (try simp); omega)])); (try with_reducible rfl))
              case hq39 => exact fun _ _ _ h => h
              (simp only [Act.put, List.setIfInBounds_toArray, List.set_cons_zero, List.set_cons_succ])
              refine wpAnyH_take (i := 17) (oi := ?o40) (v := ?v40) ?hi40 (by kernel_rfl) (by kernel_rfl) (by kernel_rfl) ?hq40 ?hy40 (by assumption) ?hr40
              case hi40 => (simp only [List.getElem?_toArray, List.getElem?_cons_succ, List.getElem?_cons_zero]; rfl)
              case hy40 => ((refine .inl ⟨by rfl, ?_⟩); intro w hS; go_simp; (try with_reducible rfl))
              case hq40 => exact fun _ _ _ h => h
              (simp only [Act.put, List.setIfInBounds_toArray, List.set_cons_zero, List.set_cons_succ])
              refine wpAnyH_done (by kernel_rfl) ?_ _
              go_wp2_with fail
              go_meet
              exact ⟨by rw [← HB.out], hHeld.bel⟩
          case rest =>
            obtain ⟨rfl, hbel3⟩ := hcut
            clear hSt ek ekj hnbw hqw HB hz1 hz2 CZ
            go_wp2_with fail
            go_loopw [5, 6] (fun t i wr => ∃ m : Nat, j ≤ m ∧ m ≤ k ∧ i = .int .i64 m ∧ t = .string (secB x0 (P ++ hdrB 145 qb nb :: ((l.drop j).take (m - j)).map imgL)) ∧ Below w.heap.size w wr) (fun _ i _ => k - (intOf i).toNat)
            case atStart => exact ⟨j, by omega, by omega, rfl, rfl, hbel3⟩
            case round =>
              clear hbel3
              obtain ⟨m, hm1, hm2, rfl, rfl, hbel4⟩ := hrel
              by_cases hmk : m < k
              · obtain ⟨y, hy⟩ : ∃ y, l[m]? = some y := ⟨l[m]'(by rw [HL.out]; omega), List.getElem?_eq_getElem _⟩
                have HE1 : Hid (S.extract (32 + 64 * m) (64 + 64 * m) = ⟨(imgL y).toArray⟩) := Lib.hid (encS_img HD.out hy)
                have HSN : Hid (secB x0 (P ++ hdrB 145 qb nb :: ((l.drop j).take (m - j)).map imgL) ++ S.extract (32 + 64 * m) (64 + 64 * m) = secB x0 (P ++ hdrB 145 qb nb :: ((l.drop j).take (m + 1 - j)).map imgL)) := Lib.hid (by
                  rw [HE1.out, secB_snoc, show m + 1 - j = (m - j) + 1 by omega, List.take_succ_eq_append_getElem (by rw [List.length_drop, HL.out]; omega)]
                  have : (l.drop j)[m - j]'(by rw [List.length_drop, HL.out]; omega) = y := by
                    have h := List.getElem?_drop (xs := l) (i := j) (j := m - j)
                    rw [show j + (m - j) = m by omega, hy] at h
                    exact (List.getElem?_eq_some_iff.1 h).2
                  rw [this]
                  simp)
                have hz3 : (secB x0 (P ++ hdrB 145 qb nb :: ((l.drop j).take (m - j)).map imgL)).size ≤ 10000 := by
                  rw [HZB.out _ (fun e he => HLN.out e (by
                    rw [List.mem_append, List.mem_cons] at he ⊢
                    rcases he with he | he | he
                    · exact .inl he
                    · exact .inr (.inl he)
                    · refine .inr (.inr ?_)
                      obtain ⟨z, hz, rfl⟩ := List.mem_map.1 he
                      exact List.mem_map.2 ⟨z, (List.take_prefix_take_left (show m - j ≤ k - j by omega)).subset hz, rfl⟩)), List.length_append, List.length_cons, List.length_map, List.length_take]
                  omega
                have hmI : (m : Int) < (k : Int) := by omega
                have hm0 : (0 : Int) ≤ (m : Int) := by omega
                have hm20 : (m : Int) < 20 := by omega
                have ea : ((32 : Int) + 64 * (m : Int)).toNat = 32 + 64 * m := by omega
                have eb : ((64 : Int) + 64 * (m : Int)).toNat = 64 + 64 * m := by omega
                generalize (secB x0 (P ++ hdrB 145 qb nb :: ((l.drop j).take (m - j)).map imgL)) = SA at *
                clear hy
                go_wp2_with fail
                go_roundw
                case rel => exact ⟨m + 1, by omega, by omega, by go_num, by rw [← HSN.out], hbel4⟩
                case measure => simp [intOf]; omega
              · obtain rfl : m = k := by omega
                have hge : ¬ (m : Int) < (m : Int) := by omega
                go_wp2_with fail
                go_roundw
                case rel => exact ⟨m, _, by omega, by omega, rfl, rfl, HSI, hbel4⟩
                case measure => simp [intOf]; omega
        · have ek : ((k : Int) == (n : Int)) = false := by rw [beq_eq_false_iff_ne]; omega
          have HB : Hid (secB x0 P ++ (⟨#[144, qb, nb, 0]⟩ ++ ⟨(zs 28).toArray⟩) = secB x0 (P ++ hdrB 144 qb nb :: ((l.drop j).take (j - j)).map imgL)) := Lib.hid (by
            rw [show (⟨#[144, qb, nb, 0]⟩ : ByteArray) = ⟨[144, qb, nb, 0].toArray⟩ from rfl, mk_append [144, qb, nb, 0] (zs 28), secB_snoc, Nat.sub_self, List.take_zero, List.map_nil]
            rfl)
          have HSI : Hid (SecI l x0 k (P ++ hdrB 144 qb nb :: ((l.drop j).take (k - j)).map imgL)) := Lib.hid (HI.out.step HOK.out hj1 hjk (by rw [HL.out]; exact hk) HPL.out (by rw [if_neg (by rw [HL.out]; exact hkn)]; rfl) hqb.symm hnb.symm)
          have HLN : Hid (∀ e ∈ P ++ hdrB 144 qb nb :: ((l.drop j).take (k - j)).map imgL, e.length = 32) := Lib.hid HSI.out.len
          have hSt : St w wc [] := ⟨hbel2, fun r hr => (List.not_mem_nil hr).elim, List.Pairwise.nil⟩
          have hz1 : (secB x0 P).size ≤ 10000 := by rw [HZB.out P HI.out.len]; omega
          have hz2 : (⟨(zs 28).toArray⟩ : ByteArray).size ≤ 100 := by rw [one_size _ _ (zs_length 28)]; omega
          generalize (⟨(zs 28).toArray⟩ : ByteArray) = Z8 at *
          clear hbel2
          have hnbw : IntKind.u8.wrap ((k : Int) - (j : Int)) = (nb.toNat : Int) := by rw [hnb]; exact byte_wrap nb
          have hqw : IntKind.u8.wrap q = (qb.toNat : Int) := by rw [hqb]; exact byte_wrap qb
          have HNB := Lib.hid hnb
          have HQB := Lib.hid hqb
          clear hnb hqb hkn
          have ekj : IntKind.i64.wrap ((k : Int) - (j : Int)) = (k : Int) - (j : Int) := IntWalk.i64_in _ (by omega)
          go_upto_region 17 with fail
          go_cut [5] from 63 to 79 (fun x wx => x = .string (secB x0 (P ++ hdrB 144 qb nb :: ((l.drop j).take (j - j)).map imgL)) ∧ Below w.heap.size w wx)
          case first =>
            refine wp_region_held_drew (S := (fun w' => St w w' [])) (by kernel_rfl) (hSt.drew) (fun hHeld => ?_)
            refine wpAnyH_take (i := 0) (oi := ?o1) (v := ?v1) ?hi1 (by kernel_rfl) (by kernel_rfl) (by kernel_rfl) ?hq1 ?hy1 (by assumption) ?hr1
            case hi1 => (simp only [List.getElem?_toArray, List.getElem?_cons_zero]; rfl)
            case hy1 => ((refine .inl ⟨by rfl, ?_⟩); intro w hS; go_simp; (try with_reducible rfl))
            case hq1 => exact fun _ _ _ h => h
            (simp only [Act.put, List.setIfInBounds_toArray, List.set_cons_zero, List.set_cons_succ])
            refine wpAnyH_take (i := 1) (oi := ?o2) (v := ?v2) ?hi2 (by kernel_rfl) (by kernel_rfl) (by kernel_rfl) ?hq2 ?hy2 (by assumption) ?hr2
            case hi2 => (simp only [List.getElem?_toArray, List.getElem?_cons_succ, List.getElem?_cons_zero]; rfl)
            case hy2 => ((refine .inl ⟨by rfl, ?_⟩); intro w hS; go_simp; (try with_reducible rfl))
            case hq2 => exact fun _ _ _ h => h
            (simp only [Act.put, List.setIfInBounds_toArray, List.set_cons_zero, List.set_cons_succ])
            refine wpAnyH_take (i := 2) (oi := ?o3) (v := ?v3) ?hi3 (by kernel_rfl) (by kernel_rfl) (by kernel_rfl) ?hq3 ?hy3 (by assumption) ?hr3
            case hi3 => (simp only [List.getElem?_toArray, List.getElem?_cons_succ, List.getElem?_cons_zero]; rfl)
            case hy3 => ((refine .inl ⟨by rfl, ?_⟩); intro w hS; go_simp; (try with_reducible rfl))
            case hq3 => exact fun _ _ _ h => h
            (simp only [Act.put, List.setIfInBounds_toArray, List.set_cons_zero, List.set_cons_succ])
            refine wpAnyH_take (i := 3) (oi := ?o4) (v := ?v4) ?hi4 (by kernel_rfl) (by kernel_rfl) (by kernel_rfl) ?hq4 ?hy4 (by assumption) ?hr4
            case hi4 => (simp only [List.getElem?_toArray, List.getElem?_cons_succ, List.getElem?_cons_zero]; rfl)
            case hy4 => ((refine .inl ⟨by rfl, ?_⟩); intro w hS; go_simp; (try with_reducible rfl))
            case hq4 => exact fun _ _ _ h => h
            (simp only [Act.put, List.setIfInBounds_toArray, List.set_cons_zero, List.set_cons_succ])
            refine wpAnyH_take (i := 4) (oi := ?o5) (v := ?v5) ?hi5 (by kernel_rfl) (by kernel_rfl) (by kernel_rfl) ?hq5 ?hy5 (by assumption) ?hr5
            case hi5 => (simp only [List.getElem?_toArray, List.getElem?_cons_succ, List.getElem?_cons_zero]; rfl)
            case hy5 => ((refine .inl ⟨by rfl, ?_⟩); intro w hS; go_simp; (try with_reducible rfl))
            case hq5 => exact fun _ _ _ h => h
            (simp only [Act.put, List.setIfInBounds_toArray, List.set_cons_zero, List.set_cons_succ])
            refine wpAnyH_take (i := 5) (oi := ?o6) (v := ?v6) ?hi6 (by kernel_rfl) (by kernel_rfl) (by kernel_rfl) ?hq6 ?hy6 (by assumption) ?hr6
            case hi6 => (simp only [List.getElem?_toArray, List.getElem?_cons_succ, List.getElem?_cons_zero]; rfl)
            case hy6 => ((refine .inl ⟨by rfl, ?_⟩); intro w hS; go_simp; (try with_reducible rfl))
            case hq6 => exact fun _ _ _ h => h
            (simp only [Act.put, List.setIfInBounds_toArray, List.set_cons_zero, List.set_cons_succ])
            refine wpAnyH_take (i := 6) (oi := ?o7) (v := ?v7) ?hi7 (by kernel_rfl) (by kernel_rfl) (by kernel_rfl) ?hq7 ?hy7 (by assumption) ?hr7
            case hi7 => (simp only [List.getElem?_toArray, List.getElem?_cons_succ, List.getElem?_cons_zero]; rfl)
            case hy7 => ((refine .inl ⟨by rfl, ?_⟩); intro w hS; obtain ⟨p0, p1, p2, p3, p4, p5⟩ := img_cells (HSL.out.below hS.bel) rfl HX.out; rw [HQ.out] at p0; go_simp; (try with_reducible rfl))
            case hq7 => exact fun _ _ _ h => h
            (simp only [Act.put, List.setIfInBounds_toArray, List.set_cons_zero, List.set_cons_succ])
            refine wpAnyH_take (i := 7) (oi := ?o8) (v := ?v8) ?hi8 (by kernel_rfl) (by kernel_rfl) (by kernel_rfl) ?hq8 ?hy8 (by assumption) ?hr8
            case hi8 => (simp only [List.getElem?_toArray, List.getElem?_cons_succ, List.getElem?_cons_zero]; rfl)
            case hy8 => ((refine .inl ⟨by rfl, ?_⟩); intro w hS; go_simp; (try with_reducible rfl))
            case hq8 => exact fun _ _ _ h => h
            (simp only [Act.put, List.setIfInBounds_toArray, List.set_cons_zero, List.set_cons_succ])
            refine wpAnyH_take (i := 8) (oi := ?o9) (v := ?v9) ?hi9 (by kernel_rfl) (by kernel_rfl) (by kernel_rfl) ?hq9 ?hy9 (by assumption) ?hr9
            case hi9 => (simp only [List.getElem?_toArray, List.getElem?_cons_succ, List.getElem?_cons_zero]; rfl)
            case hy9 => ((refine .inl ⟨by rfl, ?_⟩); intro w hS; go_simp; (try with_reducible rfl))
            case hq9 => exact fun _ _ _ h => h
            (simp only [Act.put, List.setIfInBounds_toArray, List.set_cons_zero, List.set_cons_succ])
            refine wpAnyH_take (i := 9) (oi := ?o10) (v := ?v10) ?hi10 (by kernel_rfl) (by kernel_rfl) (by kernel_rfl) ?hq10 ?hy10 (by assumption) ?hr10
            case hi10 => (simp only [List.getElem?_toArray, List.getElem?_cons_succ, List.getElem?_cons_zero]; rfl)
            case hy10 => ((refine .inl ⟨by rfl, ?_⟩); intro w hS; go_simp; (try with_reducible rfl))
            case hq10 => exact fun _ _ _ h => h
            (simp only [Act.put, List.setIfInBounds_toArray, List.set_cons_zero, List.set_cons_succ])
            refine wpAnyH_take (i := 10) (oi := ?o11) (v := ?v11) ?hi11 (by kernel_rfl) (by kernel_rfl) (by kernel_rfl) ?hq11 ?hy11 (by assumption) ?hr11
            case hi11 => (simp only [List.getElem?_toArray, List.getElem?_cons_succ, List.getElem?_cons_zero]; rfl)
            case hy11 => ((refine .inl ⟨by rfl, ?_⟩); intro w hS; go_simp; (try with_reducible rfl))
            case hq11 => exact fun _ _ _ h => h
            (simp only [Act.put, List.setIfInBounds_toArray, List.set_cons_zero, List.set_cons_succ])
            refine wpAnyH_take (i := 11) (oi := ?o12) (v := ?v12) ?hi12 (by kernel_rfl) (by kernel_rfl) (by kernel_rfl) ?hq12 ?hy12 (by assumption) ?hr12
            case hi12 => (simp only [List.getElem?_toArray, List.getElem?_cons_succ, List.getElem?_cons_zero]; rfl)
            case hy12 => ((refine .inl ⟨by rfl, ?_⟩); intro w hS; go_simp; (try with_reducible rfl))
            case hq12 => exact fun _ _ _ h => h
            (simp only [Act.put, List.setIfInBounds_toArray, List.set_cons_zero, List.set_cons_succ])
            refine wpAnyH_ready (rs := [12, 14]) (by kernel_rfl) (by simp) ?_
            refine AllReadyH.cons rfl (fun K hK => ?_) (AllReadyH.cons rfl (fun K hK => ?_) AllReadyH.nil)
            · skip
              go_simp
              refine hK.out _ _ (St.other hHeld _) (fun hHeld1 => ?_)
              clear hK K
              (try simp only [Act.put, List.setIfInBounds_toArray, List.set_cons_zero, List.set_cons_succ])
              refine wpAnyH_row0 (hHeld.new (g := wc.heap.size) rfl #[.int .u8 144, .int .u8 (qb.toNat : Int), .int .u8 (nb.toNat : Int), .int .u8 0] 5) (fun hHeld2 => ?_)
              clear hHeld hHeld1; have hHeld := hHeld2; clear hHeld2
              refine wpAnyH_take (i := 13) (oi := ?o13) (v := ?v13) ?hi13 (by kernel_rfl) (by kernel_rfl) (by kernel_rfl) ?hq13 ?hy13 (by assumption) ?hr13
              case hi13 => (simp only [List.getElem?_toArray, List.getElem?_cons_succ, List.getElem?_cons_zero]; rfl)
              case hy13 => ((refine .inl ⟨by rfl, ?_⟩); intro w hS; have q := run_bytes_row (cap := 4) Try.underlying35 Try.underlying5 Try.underlying9 [144, qb, nb, 0] (hS.at (i := 0) rfl) rfl 4 rfl; go_simp; (try with_reducible rfl))
              case hq13 => exact fun _ _ _ h => h
              (simp only [Act.put, List.setIfInBounds_toArray, List.set_cons_zero, List.set_cons_succ])
              refine wpAnyH_ready (rs := [14]) (by kernel_rfl) (by simp) ?_
              refine AllReadyH.cons rfl (fun K hK => ?_) AllReadyH.nil
              go_simp
              go_wp2_with ((refine (CZ.out _).mono ?_; rintro e w14 ⟨rfl, hb14⟩))
              refine hK.out _ _ (St.call hb14 hHeld) (fun hHeld1 => ?_)
              clear hK K
              (try simp only [Act.put, List.setIfInBounds_toArray, List.set_cons_zero, List.set_cons_succ])
              clear hHeld; have hHeld := hHeld1; clear hHeld1
              refine wpAnyH_take (i := 15) (oi := ?o14) (v := ?v14) ?hi14 (by kernel_rfl) (by kernel_rfl) (by kernel_rfl) ?hq14 ?hy14 (by assumption) ?hr14
              case hi14 => (simp only [List.getElem?_toArray, List.getElem?_cons_succ, List.getElem?_cons_zero]; rfl)
              case hy14 => ((refine .inl ⟨by rfl, ?_⟩); intro w hS; go_simp; (try (rw [if_neg (by (try simp only [ByteArray.size_append]); (try simp); omega)])); (try with_reducible rfl))
              case hq14 => exact fun _ _ _ h => h
              (simp only [Act.put, List.setIfInBounds_toArray, List.set_cons_zero, List.set_cons_succ])
              refine wpAnyH_take (i := 16) (oi := ?o15) (v := ?v15) ?hi15 (by kernel_rfl) (by kernel_rfl) (by kernel_rfl) ?hq15 ?hy15 (by assumption) ?hr15
              case hi15 => (simp only [List.getElem?_toArray, List.getElem?_cons_succ, List.getElem?_cons_zero]; rfl)
              case hy15 => ((refine .inl ⟨by rfl, ?_⟩); intro w hS; go_simp; (try (rw [if_neg (by (try simp only [ByteArray.size_append]); (try simp); omega)])); (try with_reducible rfl))
              case hq15 => exact fun _ _ _ h => h
              (simp only [Act.put, List.setIfInBounds_toArray, List.set_cons_zero, List.set_cons_succ])
              refine wpAnyH_take (i := 17) (oi := ?o16) (v := ?v16) ?hi16 (by kernel_rfl) (by kernel_rfl) (by kernel_rfl) ?hq16 ?hy16 (by assumption) ?hr16
              case hi16 => (simp only [List.getElem?_toArray, List.getElem?_cons_succ, List.getElem?_cons_zero]; rfl)
              case hy16 => ((refine .inl ⟨by rfl, ?_⟩); intro w hS; go_simp; (try with_reducible rfl))
              case hq16 => exact fun _ _ _ h => h
              (simp only [Act.put, List.setIfInBounds_toArray, List.set_cons_zero, List.set_cons_succ])
              refine wpAnyH_done (by kernel_rfl) ?_ _
              go_wp2_with fail
              go_meet
              exact ⟨by rw [← HB.out], hHeld.bel⟩
            · skip
              go_simp
              go_wp2_with ((refine (CZ.out _).mono ?_; rintro e w14 ⟨rfl, hb14⟩))
              refine hK.out _ _ (St.call hb14 hHeld) (fun hHeld1 => ?_)
              clear hK K
              (try simp only [Act.put, List.setIfInBounds_toArray, List.set_cons_zero, List.set_cons_succ])
              clear hHeld; have hHeld := hHeld1; clear hHeld1
              refine wpAnyH_ready (rs := [12]) (by kernel_rfl) (by simp) ?_
              refine AllReadyH.cons rfl (fun K hK => ?_) AllReadyH.nil
              go_simp
              refine hK.out _ _ (St.other hHeld _) (fun hHeld1 => ?_)
              clear hK K
              (try simp only [Act.put, List.setIfInBounds_toArray, List.set_cons_zero, List.set_cons_succ])
              refine wpAnyH_row0 (hHeld.new (g := w14.heap.size) rfl #[.int .u8 144, .int .u8 (qb.toNat : Int), .int .u8 (nb.toNat : Int), .int .u8 0] 5) (fun hHeld2 => ?_)
              clear hHeld hHeld1; have hHeld := hHeld2; clear hHeld2
              refine wpAnyH_take (i := 13) (oi := ?o17) (v := ?v17) ?hi17 (by kernel_rfl) (by kernel_rfl) (by kernel_rfl) ?hq17 ?hy17 (by assumption) ?hr17
              case hi17 => (simp only [List.getElem?_toArray, List.getElem?_cons_succ, List.getElem?_cons_zero]; rfl)
              case hy17 => ((refine .inl ⟨by rfl, ?_⟩); intro w hS; have q := run_bytes_row (cap := 4) Try.underlying35 Try.underlying5 Try.underlying9 [144, qb, nb, 0] (hS.at (i := 0) rfl) rfl 4 rfl; go_simp; (try with_reducible rfl))
              case hq17 => exact fun _ _ _ h => h
              (simp only [Act.put, List.setIfInBounds_toArray, List.set_cons_zero, List.set_cons_succ])
              refine wpAnyH_take (i := 15) (oi := ?o18) (v := ?v18) ?hi18 (by kernel_rfl) (by kernel_rfl) (by kernel_rfl) ?hq18 ?hy18 (by assumption) ?hr18
              case hi18 => (simp only [List.getElem?_toArray, List.getElem?_cons_succ, List.getElem?_cons_zero]; rfl)
              case hy18 => ((refine .inl ⟨by rfl, ?_⟩); intro w hS; go_simp; (try (rw [if_neg (by (try simp only [ByteArray.size_append]); (try simp); omega)])); (try with_reducible rfl))
              case hq18 => exact fun _ _ _ h => h
              (simp only [Act.put, List.setIfInBounds_toArray, List.set_cons_zero, List.set_cons_succ])
              refine wpAnyH_take (i := 16) (oi := ?o19) (v := ?v19) ?hi19 (by kernel_rfl) (by kernel_rfl) (by kernel_rfl) ?hq19 ?hy19 (by assumption) ?hr19
              case hi19 => (simp only [List.getElem?_toArray, List.getElem?_cons_succ, List.getElem?_cons_zero]; rfl)
              case hy19 => ((refine .inl ⟨by rfl, ?_⟩); intro w hS; go_simp; (try (rw [if_neg (by (try simp only [ByteArray.size_append]); (try simp); omega)])); (try with_reducible rfl))
              case hq19 => exact fun _ _ _ h => h
              (simp only [Act.put, List.setIfInBounds_toArray, List.set_cons_zero, List.set_cons_succ])
              refine wpAnyH_take (i := 17) (oi := ?o20) (v := ?v20) ?hi20 (by kernel_rfl) (by kernel_rfl) (by kernel_rfl) ?hq20 ?hy20 (by assumption) ?hr20
              case hi20 => (simp only [List.getElem?_toArray, List.getElem?_cons_succ, List.getElem?_cons_zero]; rfl)
              case hy20 => ((refine .inl ⟨by rfl, ?_⟩); intro w hS; go_simp; (try with_reducible rfl))
              case hq20 => exact fun _ _ _ h => h
              (simp only [Act.put, List.setIfInBounds_toArray, List.set_cons_zero, List.set_cons_succ])
              refine wpAnyH_done (by kernel_rfl) ?_ _
              go_wp2_with fail
              go_meet
              exact ⟨by rw [← HB.out], hHeld.bel⟩
          case rest =>
            obtain ⟨rfl, hbel3⟩ := hcut
            clear hSt ek ekj hnbw hqw HB hz1 hz2 CZ
            go_wp2_with fail
            go_loopw [5, 6] (fun t i wr => ∃ m : Nat, j ≤ m ∧ m ≤ k ∧ i = .int .i64 m ∧ t = .string (secB x0 (P ++ hdrB 144 qb nb :: ((l.drop j).take (m - j)).map imgL)) ∧ Below w.heap.size w wr) (fun _ i _ => k - (intOf i).toNat)
            case atStart => exact ⟨j, by omega, by omega, rfl, rfl, hbel3⟩
            case round =>
              clear hbel3
              obtain ⟨m, hm1, hm2, rfl, rfl, hbel4⟩ := hrel
              by_cases hmk : m < k
              · obtain ⟨y, hy⟩ : ∃ y, l[m]? = some y := ⟨l[m]'(by rw [HL.out]; omega), List.getElem?_eq_getElem _⟩
                have HE1 : Hid (S.extract (32 + 64 * m) (64 + 64 * m) = ⟨(imgL y).toArray⟩) := Lib.hid (encS_img HD.out hy)
                have HSN : Hid (secB x0 (P ++ hdrB 144 qb nb :: ((l.drop j).take (m - j)).map imgL) ++ S.extract (32 + 64 * m) (64 + 64 * m) = secB x0 (P ++ hdrB 144 qb nb :: ((l.drop j).take (m + 1 - j)).map imgL)) := Lib.hid (by
                  rw [HE1.out, secB_snoc, show m + 1 - j = (m - j) + 1 by omega, List.take_succ_eq_append_getElem (by rw [List.length_drop, HL.out]; omega)]
                  have : (l.drop j)[m - j]'(by rw [List.length_drop, HL.out]; omega) = y := by
                    have h := List.getElem?_drop (xs := l) (i := j) (j := m - j)
                    rw [show j + (m - j) = m by omega, hy] at h
                    exact (List.getElem?_eq_some_iff.1 h).2
                  rw [this]
                  simp)
                have hz3 : (secB x0 (P ++ hdrB 144 qb nb :: ((l.drop j).take (m - j)).map imgL)).size ≤ 10000 := by
                  rw [HZB.out _ (fun e he => HLN.out e (by
                    rw [List.mem_append, List.mem_cons] at he ⊢
                    rcases he with he | he | he
                    · exact .inl he
                    · exact .inr (.inl he)
                    · refine .inr (.inr ?_)
                      obtain ⟨z, hz, rfl⟩ := List.mem_map.1 he
                      exact List.mem_map.2 ⟨z, (List.take_prefix_take_left (show m - j ≤ k - j by omega)).subset hz, rfl⟩)), List.length_append, List.length_cons, List.length_map, List.length_take]
                  omega
                have hmI : (m : Int) < (k : Int) := by omega
                have hm0 : (0 : Int) ≤ (m : Int) := by omega
                have hm20 : (m : Int) < 20 := by omega
                have ea : ((32 : Int) + 64 * (m : Int)).toNat = 32 + 64 * m := by omega
                have eb : ((64 : Int) + 64 * (m : Int)).toNat = 64 + 64 * m := by omega
                generalize (secB x0 (P ++ hdrB 144 qb nb :: ((l.drop j).take (m - j)).map imgL)) = SA at *
                clear hy
                go_wp2_with fail
                go_roundw
                case rel => exact ⟨m + 1, by omega, by omega, by go_num, by rw [← HSN.out], hbel4⟩
                case measure => simp [intOf]; omega
              · obtain rfl : m = k := by omega
                have hge : ¬ (m : Int) < (m : Int) := by omega
                go_wp2_with fail
                go_roundw
                case rel => exact ⟨m, _, by omega, by omega, rfl, rfl, HSI, hbel4⟩
                case measure => simp [intOf]; omega
    · obtain rfl : j = n := by omega
      have hge : ¬ (j : Int) < (j : Int) := by omega
      have hsz2 : (secB x0 P).size = 64 + 32 * P.length := HZB.out P HI.out.len
      have hcn := HI.out.cnt
      have CZ3 := Lib.hid (fun w => zeros_any (2048 - (64 + 32 * P.length)) w (by omega))
      have HF : Hid (decR ((secB x0 P) ++ ⟨(zs (2048 - (64 + 32 * P.length))).toArray⟩).data.toList = (0, l)) := Lib.hid (by
        unfold secB
        rw [mk_append]
        have := HI.out
        rw [← HL.out] at this
        exact this.dec HOK.out HX0.out (by rw [HL.out]; omega))
      obtain ⟨zn, hzn⟩ : ∃ zn, 2048 - (64 + 32 * P.length) = zn := ⟨_, rfl⟩
      rw [hzn] at CZ3 HF
      have hz9 : (⟨(zs zn).toArray⟩ : ByteArray).size ≤ 2048 := by rw [one_size _ _ (zs_length zn)]; omega
      generalize secB x0 P = SJ at *
      generalize (⟨(zs zn).toArray⟩ : ByteArray) = Z9 at *
      have hs9 : SJ.size ≤ 2048 := by omega
      have e9 : (2048 : Int) - (SJ.size : Int) = (zn : Int) := by omega
      clear hzn hsz2 hcn HI
      go_wp2_with fail
      refine (CZ3.out _).mono ?_
      rintro e w9 ⟨rfl, hb9⟩
      have hbel2 := hbel.trans (hb9.mono hbel.size)
      clear hb9 hbel
      go_wp2_with fail
      refine (decode_any _ _).mono ?_
      rintro e w3 ⟨hb3, A', c, rfl, hs3⟩
      rw [HF.out] at hs3 ⊢
      dsimp only at hs3 ⊢
      have hb4 := hbel2.trans (hb3.mono hbel2.size)
      clear hbel2 hb3
      have CS := Lib.hid (imgs_same A' _ c cap l w3 hs3 ((HSL.out.below hb4).mono hb4.size) (by rw [HL.out]; omega))
      rw [HL.out] at CS ⊢
      go_wp2_with fail
      refine CS.out.mono ?_
      rintro e w4 ⟨rfl, hb5⟩
      have hb6 := hb4.trans (hb5.mono hb4.size)
      go_wp2_with fail
      go_ret
      exact ⟨rfl, hb6⟩

set_option maxHeartbeats 2000000 in
theorem sections_any (A : Option Addr) (len cap : Nat) (l : List Img) (w : World) (h : IsL encI ImgG w A len cap l) :
    Calls Try.prog 6 #[.slice A len cap] w fun e w' => e = .returned (.bool true) ∧ Below w.heap.size w w' := by
  obtain ⟨rfl, hc, hcm, hsl, _⟩ := h
  have HSL := Lib.hid hsl
  have HC := Lib.hid hc
  have HCM := Lib.hid hcm
  obtain ⟨n, hn⟩ : ∃ n, l.length = n := ⟨_, rfl⟩
  have HN := Lib.hid hn
  have CE : Hid (∀ wx, Below w.heap.size w wx → Calls Try.prog 11 #[.slice A n cap] wx (EncR l wx)) := Lib.hid fun wx hb => by
    have := encode_any A cap l wx ((HSL.out.below hb).mono hb.size) HC.out HCM.out
    rwa [HN.out] at this
  rw [hn]
  clear hsl hc hcm hn
  by_cases h20 : (20 : Int) < (n : Int)
  · go_enter Try.func6, Try.ntmps6
    go_wp2_with fail
    refine (awake_any _).mono ?_
    rintro e w0 ⟨rfl, hb0⟩
    go_wp2_with fail
    go_ret
    exact ⟨rfl, hb0⟩
  · rcases enc_ways l with ⟨hE, hS⟩ | ⟨hE, hS, h0, h1, hok⟩
    · unfold EncR at CE
      generalize hG : encE l = E at *
      generalize hG2 : encStr l = S at *
      have hEb : (E != 0) = true := by rw [bne_iff_ne]; exact hE
      clear hG hG2 hS hE
      go_enter Try.func6, Try.ntmps6
      go_wp2_with fail
      refine (awake_any _).mono ?_
      rintro e w0 ⟨rfl, hb0⟩
      go_wp2_with fail
      refine (CE.out _ hb0).mono ?_
      rintro e w1 ⟨rfl, hb1⟩
      have hb1 := hb0.trans (hb1.mono hb0.size)
      go_wp2_with fail
      go_ret
      exact ⟨rfl, hb1⟩
    · by_cases h2 : (n : Int) < 2
      · have hEE := Lib.hid hE
        unfold EncR at CE
        rw [hE] at CE
        generalize encStr l = S at *
        clear hE hS hok
        go_enter Try.func6, Try.ntmps6
        go_wp2_with fail
        refine (awake_any _).mono ?_
        rintro e w0 ⟨rfl, hb0⟩
        go_wp2_with fail
        refine (CE.out _ hb0).mono ?_
        rintro e w1 ⟨rfl, hb1⟩
        have hb1 := hb0.trans (hb1.mono hb0.size)
        go_wp2_with fail
        go_ret
        exact ⟨rfl, hb1⟩
      · exact sec_ok A n cap l w HN.out HSL.out hE hS (by omega) (by omega) hok CE.out
end Go.Proofs.Ytjlppndlgdgekaa
