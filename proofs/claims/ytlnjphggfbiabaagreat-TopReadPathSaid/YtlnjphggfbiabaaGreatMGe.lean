/-
  Polynomials over the field: trim, Remainder, Generator.
-/
import Derived.Test.YtlnjphggfbiabaaGreatMGd
import Derived.Test.YtlnjphggfbiabaaGreatAppAny
namespace Go.Proofs.YtlnjphggfbiabaaGreat
open Go.RowKit
set_option linter.unusedVariables false

theorem own_le {w : World} {base base' e size n : Nat} {v : Value} {xs : List Value} (h : w.ownsRow base e size v n xs) (hb : base' ≤ base) : w.ownsRow base' e size v n xs := by
  refine ⟨h.1, ?_⟩
  rcases h.2 with h2 | ⟨g, cap, cur, hv, hg, r⟩
  · exact .inl h2
  · exact .inr ⟨g, cap, cur, hv, by omega, r⟩
theorem natV_append (a b : List Nat) : natV (a ++ b) = natV a ++ natV b := by simp [natV]
theorem natV_one (l : List Nat) : ∀ u ∈ natV l, u.oneCell' = true := by
  intro u hu
  obtain ⟨n, _, rfl⟩ := List.mem_map.1 hu
  rfl
theorem B8.append {a b : List Nat} (h : B8 a) (h' : B8 b) : B8 (a ++ b) := fun n hn => by
  rcases List.mem_append.1 hn with h1 | h1
  · exact h n h1
  · exact h' n h1
theorem B8.drop {l : List Nat} (h : B8 l) (k : Nat) : B8 (l.drop k) := fun n hn => h n (List.mem_of_mem_drop hn)
theorem SlAt.dropk {w : World} {B b off : Nat} {xs : List Value} (h : SlAt w B (some ⟨b, off, none⟩) xs) (k : Nat) : SlAt w B (some ⟨b, off + k, none⟩) (xs.drop k) := by
  intro j u hu
  rw [List.getElem?_drop] at hu
  obtain ⟨b', off', e, hb, hc⟩ := h (k + j) u hu
  injection e with e
  injection e with e1 e2 _
  subst e1 e2
  exact ⟨b, off + k, rfl, hb, by rw [Nat.add_assoc]; exact hc⟩
theorem natV_drop (l : List Nat) (k : Nat) : natV (l.drop k) = (natV l).drop k := by simp [natV, List.map_drop]
theorem trim_any (A : Option Addr) (c : Nat) (q : List Nat) (a : Nat) (w : World) (h : SlAt w w.heap.size A (natV q)) (ha : q[0]? = some a) (h0 : a ≠ 0) (hl : q.length ≤ 1000000) :
    Calls Tryz.prog 106 #[.slice A q.length c] w fun e w' => e = .returned (.slice A q.length c) ∧ w = w' := by
  have hp : 0 < q.length := (List.getElem?_eq_some_iff.1 ha).1
  obtain ⟨b, off, hA, hb⟩ := h.natAddr hp
  subst hA
  have q0 := h.nat rfl ha
  rw [Nat.add_zero] at q0
  generalize q.length = n at *
  have hI : (0 : Int) < (n : Int) := by omega
  have haB : ((a : Int) == 0) = false := by rw [beq_eq_false_iff_ne]; omega
  clear h ha
  go_enter Tryz.func106, Tryz.ntmps106
  go_wp2_with fail
  refine wp_loop_rounds 1 ?_
  rw [rounds_succ]
  go_wp2_with fail
  go_ret
  exact ⟨rfl, rfl⟩

/-- The rest of the division after i steps. -/
def remK (inv : Nat) (q r0 : List Nat) : Nat → List Nat
  | 0 => r0
  | i + 1 => accA (remK inv q r0 i) i (mulN ((remK inv q r0 i)[i]?.getD 0) inv) q
def remN (p q : List Nat) : List Nat := (remK (invN (q.headD 0)) q (List.replicate (q.length - 1) 0 ++ p) p.length).drop p.length
theorem remK_length (inv : Nat) (q r0 : List Nat) : ∀ i, (remK inv q r0 i).length = r0.length
  | 0 => rfl
  | i + 1 => by rw [remK, accA_length, remK_length]
theorem remK_b8 {inv : Nat} {q r0 : List Nat} (h : B8 r0) : ∀ i, B8 (remK inv q r0 i)
  | 0 => h
  | i + 1 => accA_b8 (remK_b8 h i) (mulN_lt (B8.getD (remK_b8 h i) i))
theorem invN_lt (a : Nat) : invN a < 256 := by
  unfold invN
  split
  · decide
  · exact powN_lt _
set_option maxRecDepth 100000 in
set_option maxHeartbeats 4000000 in
theorem remainder_any (A A' : Option Addr) (c c' : Nat) (p q : List Nat) (a : Nat) (w : World) (h : SlAt w w.heap.size A (natV p)) (h' : SlAt w w.heap.size A' (natV q)) (hp : B8 p) (hq : B8 q) (ha : q[0]? = some a) (ha0 : a ≠ 0) (hpl : p.length ≤ 100000) (hq2 : 2 ≤ q.length) (hql : q.length ≤ 100000) :
    Calls Tryz.prog 71 #[.slice A p.length c, .slice A' q.length c'] w fun e w' => Below w.heap.size w w' ∧ ∃ A2 c2, e = .returned (.tuple #[.slice A2 (remN p q).length c2, .int .i64 0]) ∧ w'.ownsRow w.heap.size 5 1 (.slice A2 (remN p q).length c2) (remN p q).length (natV (remN p q)) := by
  have HS := Lib.hid h
  have HS' := Lib.hid h'
  have HP := Lib.hid hp
  have HQ := Lib.hid hq
  have CT := Lib.hid (trim_any A' c' q a w h' ha ha0 (by omega))
  have CI := Lib.hid (inv_any a w)
  have hhd : q.headD 0 = a := by
    cases q with
    | nil => cases ha
    | cons y r => injection ha
  obtain ⟨b', off', hA', hb'⟩ := h'.natAddr (by omega)
  subst hA'
  have q0 := h'.nat rfl ha
  rw [Nat.add_zero] at q0
  have hi8 := invN_lt a
  obtain ⟨z, hz⟩ : ∃ z, q.length = z + 1 := ⟨q.length - 1, by omega⟩
  obtain ⟨np, hnp⟩ : ∃ np, p.length = np := ⟨_, rfl⟩
  obtain ⟨r0, hr0⟩ : ∃ r0, List.replicate z 0 ++ p = r0 := ⟨_, rfl⟩
  obtain ⟨N, hN⟩ : ∃ N, z + np = N := ⟨_, rfl⟩
  have HRN : Hid (remN p q = (remK (invN a) q r0 np).drop np) := Lib.hid (by unfold remN; rw [hhd, hz, Nat.add_sub_cancel, hr0, hnp])
  have HR0 : Hid (natV (List.replicate z 0) ++ natV p = natV r0) := Lib.hid (by rw [← natV_append, hr0])
  have HL : Hid (∀ i, (remK (invN a) q r0 i).length = N) := Lib.hid (fun i => by rw [remK_length, ← hr0, List.length_append, List.length_replicate, hnp, hN])
  have HB8 : Hid (∀ i, B8 (remK (invN a) q r0 i)) := Lib.hid (fun i => remK_b8 (by rw [← hr0]; exact (B8.zeros z).append hp) i)
  have HRS : Hid (∀ i, remK (invN a) q r0 (i + 1) = accK (remK (invN a) q r0 i) i (mulN ((remK (invN a) q r0 i)[i]?.getD 0) (invN a)) q (z + 1)) := Lib.hid (fun i => by rw [remK, accA, hz])
  have HR00 : Hid (remK (invN a) q r0 0 = r0) := Lib.hid rfl
  have HN := Lib.hid hnp
  have HM := Lib.hid hz
  rw [hnp] at hpl ⊢
  rw [hz] at CT hq2 hql ⊢
  rw [HRN.out]
  generalize invN a = inv at *
  have hmk := fun w' => run_mk8 Tryz.underlying75 z (by omega) w'
  have hm1 : ((z : Int) + 1 == 0) = false := by rw [beq_eq_false_iff_ne]; omega
  have hm2 : (z : Int) + 1 - 1 = (z : Int) := by omega
  have hm3 : (N : Int) - (z : Int) = (np : Int) := by omega
  clear h h' hp hq ha hhd hz hnp hr0
  go_enter Tryz.func71, Tryz.ntmps71
  go_wp2_with fail
  refine CT.out.mono ?_
  rintro e w' ⟨rfl, rfl⟩
  go_wp2_with fail
  refine CI.out.mono ?_
  rintro e w1 ⟨hb1, E, rfl, _⟩
  have HMADE := Lib.hid (own_le (made_bytes w1 z (by unfold maxLen; omega)) hb1.size)
  have HB1 := Lib.hid hb1
  clear hb1 q0 CT CI
  go_wp2_with (at_builtin; refine wpList_appX (s := .tmp 30) (x := .tmp 31) HMADE.out info_byte Tryz.underlying75 rfl (by decide) (by rw [natV_length, HN.out, Nat.mul_one]) (HS.out.below (HB1.out.alloc HB1.out.size _)) (natV_one _) (by unfold maxLen; omega) (by omega) (by have := HB1.out.size; simp; omega) rfl rfl (by rfl) (by rfl) ?_; intro v2 w2 hown2 hg2 hne2; have HB2 : Hid (Below w.heap.size w w2) := Lib.hid ((HB1.out.alloc HB1.out.size _).grown hg2 (by have := HB1.out.size; simp; omega) (fun k hk => (HMADE.out.lt k hk).1)); obtain ⟨g2, c2, hv2, hg20, hg21, hc2⟩ := own_form hown2 (by omega); subst hv2; have HO2 := Lib.hid hown2; rw [HR0.out, hN] at HO2; rw [hN]; rw [hN] at hc2; clear hown2 hg2 hne2)
  go_loopw [37] (fun i wr => ∃ k : Nat, k ≤ np ∧ i = .int .i64 k ∧ wr.ownsRow w.heap.size 5 1 (.slice (some ⟨g2, 0, none⟩) N c2) N (natV (remK inv q r0 k)) ∧ Below w.heap.size w wr) (fun i _ => np - (intOf i).toNat)
  case atStart => exact ⟨0, by omega, rfl, by rw [HR00.out]; exact HO2.out, HB2.out⟩
  case round =>
    clear HO2 HB2
    obtain ⟨wo, rfl⟩ : ∃ wo : World, wo = wr := ⟨_, rfl⟩
    obtain ⟨i, hi, rfl, hown, hbel⟩ := hrel
    by_cases hlt : i < np
    · obtain ⟨P0, hP0⟩ : ∃ P0, remK inv q r0 i = P0 := ⟨_, rfl⟩
      have HP0L : Hid (P0.length = N) := Lib.hid (by rw [← hP0]; exact HL.out i)
      have hB8 := HB8.out i
      have HPK := Lib.hid (HRS.out i)
      rw [hP0] at hown HPK hB8
      obtain ⟨Y, hY⟩ : ∃ Y, P0[i]? = some Y := ⟨_, List.getElem?_eq_getElem (by rw [HP0L.out]; omega)⟩
      rw [hY, Option.getD_some] at HPK
      have hY8 := hB8.get hY
      have qy := own_nat hown hY
      have CM := Lib.hid (fun w' => mul_any Y inv w' hY8 hi8)
      have hf8 := mulN_lt (b := inv) hY8
      obtain ⟨f, hf⟩ : ∃ f, mulN Y inv = f := ⟨_, rfl⟩
      rw [hf] at CM hf8 HPK
      have hltI : (i : Int) < (np : Int) := by omega
      have h0i : (0 : Int) ≤ (i : Int) := by omega
      have hiN : (i : Int) < (N : Int) := by omega
      have HB8P := Lib.hid hB8
      have HOW := Lib.hid hown
      have HBE := Lib.hid hbel
      clear hP0 hY hf hown hbel hB8
      go_wp2_with fail
      refine (CM.out _).mono ?_
      rintro e w3 ⟨rfl, rfl⟩
      clear qy
      go_wp2_with fail
      go_loopw [48] (fun j wr => ∃ k : Nat, k ≤ z + 1 ∧ j = .int .i64 k ∧ wr.ownsRow w.heap.size 5 1 (.slice (some ⟨g2, 0, none⟩) N c2) N (natV (accK P0 i f q k)) ∧ Below w.heap.size w wr) (fun j _ => z + 1 - (intOf j).toNat)
      case atStart => exact ⟨0, by omega, rfl, HOW.out, HBE.out⟩
      case round =>
        clear HOW HBE CM
        obtain ⟨k, hk, rfl, hown, hbel⟩ := hrel
        by_cases hltk : k < z + 1
        · obtain ⟨y, hy⟩ : ∃ y, q[k]? = some y := ⟨q[k]'(by rw [HM.out]; exact hltk), List.getElem?_eq_getElem _⟩
          have q2 := (HS'.out.below hbel).nat rfl hy
          have hltkI : (k : Int) < (z : Int) + 1 := by omega
          have h0k : (0 : Int) ≤ (k : Int) := by omega
          have hy8 := HQ.out.get hy
          have HB8k := accK_b8 (o := i) (q := q) HB8P.out hf8 k
          have HAK : Hid (accK P0 i f q (k + 1) = (accK P0 i f q k).set (i + k) (((accK P0 i f q k)[i + k]?.getD 0) ^^^ mulN f y)) := Lib.hid (by rw [accK, hy, Option.getD_some])
          obtain ⟨O, hO⟩ : ∃ O, (accK P0 i f q k)[i + k]? = some O := ⟨_, List.getElem?_eq_getElem (by rw [accK_length, HP0L.out]; omega)⟩
          rw [hO, Option.getD_some] at HAK
          have hO8 := HB8k.get hO
          have HCELL := Lib.hid (own_nat (own_drewN hown 1) hO)
          have C := Lib.hid (fun w' => mul_any f y w' hf8 hy8)
          have hM8 := mulN_lt (b := y) hf8
          have hX := u8_xor_nat O (mulN f y) hO8 hM8
          generalize mulN f y = M at *
          have hik0 : (0 : Int) ≤ (i : Int) + (k : Int) := by omega
          have hik1 : (i : Int) + (k : Int) < (N : Int) := by omega
          have hik2 : ((i : Int) + (k : Int)).toNat = i + k := by omega
          have hik3 : IntKind.i64.wrap ((i : Int) + (k : Int)) = (i : Int) + (k : Int) := IntWalk.i64_in _ (by omega)
          have HOW := Lib.hid hown
          have HBE := Lib.hid hbel
          clear hy hO hown hbel HB8k
          go_upto_region 14 with fail
          refine wp_region_any (by kernel_rfl) (wpAny_of_Z (S := fun w' => w'.cell? ⟨g2, i + k, none⟩ = some (.int .u8 (O : Int))) (z := 11) _ _ _ _ ?_)
          have hHeld : wr.drew.cell? ⟨g2, i + k, none⟩ = some (.int .u8 (O : Int)) := HCELL.out
          have hfz : wr.drew.frozen? ⟨g2, i + k, none⟩ = false := (own_drewN HOW.out 1).frozenAt (i + k)
          change wpAnyZ _ _ _ _ _ _ _ _ _ (World.drew _)
          refine wpAnyZ_take (i := 0) (oi := ?o1) (v := ?v1) ?hi1 (by kernel_rfl) (by kernel_rfl) (by kernel_rfl) (by kernel_rfl) ?hq1 ?hy1 (by assumption) ?hr1
          case hi1 => (simp only [List.getElem?_toArray, List.getElem?_cons_zero]; rfl)
          case hy1 => ((refine .inl ⟨by rfl, ?_⟩); intro w hS; go_simp; (try with_reducible rfl))
          case hq1 => exact fun _ _ _ h => h
          (try simp only [Act.put, List.setIfInBounds_toArray, List.set_cons_zero, List.set_cons_succ])
          refine wpAnyZ_take (i := 1) (oi := ?o2) (v := ?v2) ?hi2 (by kernel_rfl) (by kernel_rfl) (by kernel_rfl) (by kernel_rfl) ?hq2 ?hy2 (by assumption) ?hr2
          case hi2 => (simp only [List.getElem?_toArray, List.getElem?_cons_succ, List.getElem?_cons_zero]; rfl)
          case hy2 => ((refine .inl ⟨by rfl, ?_⟩); intro w hS; go_simp; (try with_reducible rfl))
          case hq2 => exact fun _ _ _ h => h
          (try simp only [Act.put, List.setIfInBounds_toArray, List.set_cons_zero, List.set_cons_succ])
          refine wpAnyZ_take (i := 2) (oi := ?o3) (v := ?v3) ?hi3 (by kernel_rfl) (by kernel_rfl) (by kernel_rfl) (by kernel_rfl) ?hq3 ?hy3 (by assumption) ?hr3
          case hi3 => (simp only [List.getElem?_toArray, List.getElem?_cons_succ, List.getElem?_cons_zero]; rfl)
          case hy3 => ((refine .inl ⟨by rfl, ?_⟩); intro w hS; go_simp; (try with_reducible rfl))
          case hq3 => exact fun _ _ _ h => h
          (try simp only [Act.put, List.setIfInBounds_toArray, List.set_cons_zero, List.set_cons_succ])
          refine wpAnyZ_take (i := 3) (oi := ?o4) (v := ?v4) ?hi4 (by kernel_rfl) (by kernel_rfl) (by kernel_rfl) (by kernel_rfl) ?hq4 ?hy4 (by assumption) ?hr4
          case hi4 => (simp only [List.getElem?_toArray, List.getElem?_cons_succ, List.getElem?_cons_zero]; rfl)
          case hy4 => ((refine .inl ⟨by rfl, ?_⟩); intro w hS; go_simp; (try with_reducible rfl))
          case hq4 => exact fun _ _ _ h => h
          (try simp only [Act.put, List.setIfInBounds_toArray, List.set_cons_zero, List.set_cons_succ])
          refine wpAnyZ_take (i := 4) (oi := ?o5) (v := ?v5) ?hi5 (by kernel_rfl) (by kernel_rfl) (by kernel_rfl) (by kernel_rfl) ?hq5 ?hy5 (by assumption) ?hr5
          case hi5 => (simp only [List.getElem?_toArray, List.getElem?_cons_succ, List.getElem?_cons_zero]; rfl)
          case hy5 => ((refine .inl ⟨by rfl, ?_⟩); intro w hS; go_simp; (try with_reducible rfl))
          case hq5 => exact fun _ _ _ h => h
          (try simp only [Act.put, List.setIfInBounds_toArray, List.set_cons_zero, List.set_cons_succ])
          refine wpAnyZ_take (i := 5) (oi := ?o6) (v := ?v6) ?hi6 (by kernel_rfl) (by kernel_rfl) (by kernel_rfl) (by kernel_rfl) ?hq6 ?hy6 (by assumption) ?hr6
          case hi6 => (simp only [List.getElem?_toArray, List.getElem?_cons_succ, List.getElem?_cons_zero]; rfl)
          case hy6 => ((refine .inl ⟨by rfl, ?_⟩); intro w hS; go_simp; (try with_reducible rfl))
          case hq6 => exact fun _ _ _ h => h
          (try simp only [Act.put, List.setIfInBounds_toArray, List.set_cons_zero, List.set_cons_succ])
          refine wpAnyZ_take (i := 6) (oi := ?o7) (v := ?v7) ?hi7 (by kernel_rfl) (by kernel_rfl) (by kernel_rfl) (by kernel_rfl) ?hq7 ?hy7 (by assumption) ?hr7
          case hi7 => (simp only [List.getElem?_toArray, List.getElem?_cons_succ, List.getElem?_cons_zero]; rfl)
          case hy7 => ((refine .inl ⟨by rfl, ?_⟩); intro w hS; go_simp; (try with_reducible rfl))
          case hq7 => exact fun _ _ _ h => h
          (try simp only [Act.put, List.setIfInBounds_toArray, List.set_cons_zero, List.set_cons_succ])
          refine wpAnyZ_take (i := 7) (oi := ?o8) (v := ?v8) ?hi8 (by kernel_rfl) (by kernel_rfl) (by kernel_rfl) (by kernel_rfl) ?hq8 ?hy8 (by assumption) ?hr8
          case hi8 => (simp only [List.getElem?_toArray, List.getElem?_cons_succ, List.getElem?_cons_zero]; rfl)
          case hy8 => ((refine .inl ⟨by rfl, ?_⟩); intro w hS; go_simp; (try with_reducible rfl))
          case hq8 => exact fun _ _ _ h => h
          (try simp only [Act.put, List.setIfInBounds_toArray, List.set_cons_zero, List.set_cons_succ])
          refine wpAnyZ_one (i := 8) (by kernel_rfl) rfl (by kernel_rfl) (fun K hK => ?_)
          go_simp
          go_wp2_with (((with_reducible refine (C.out _).mono ?_); rintro e w9 ⟨rfl, rfl⟩))
          refine hK.out _ _ (hHeld) (fun hHeld => ?_)
          clear hK K
          (try simp only [Act.put, List.setIfInBounds_toArray, List.set_cons_zero, List.set_cons_succ])
          refine wpAnyZ_take (i := 9) (oi := ?o9) (v := ?v9) ?hi9 (by kernel_rfl) (by kernel_rfl) (by kernel_rfl) (by kernel_rfl) ?hq9 ?hy9 (by assumption) ?hr9
          case hi9 => (simp only [List.getElem?_toArray, List.getElem?_cons_succ, List.getElem?_cons_zero]; rfl)
          case hy9 => ((refine .inl ⟨by rfl, ?_⟩); intro w hS; go_simp; (try with_reducible rfl))
          case hq9 => exact fun _ _ _ h => h
          (try simp only [Act.put, List.setIfInBounds_toArray, List.set_cons_zero, List.set_cons_succ])
          refine wpAnyZ_take (i := 10) (oi := ?o10) (v := ?v10) ?hi10 (by kernel_rfl) (by kernel_rfl) (by kernel_rfl) (by kernel_rfl) ?hq10 ?hy10 (by assumption) ?hr10
          case hi10 => (simp only [List.getElem?_toArray, List.getElem?_cons_succ, List.getElem?_cons_zero]; rfl)
          case hy10 => ((refine .inl ⟨by rfl, ?_⟩); intro w hS; go_simp; (try with_reducible rfl))
          case hq10 => exact fun _ _ _ h => h
          (try simp only [Act.put, List.setIfInBounds_toArray, List.set_cons_zero, List.set_cons_succ])
          refine wpAnyZ_last (by kernel_rfl) rfl (fun K hK => ?_)
          go_simp
          refine hK.out _ _ ?_
          clear hK K
          (try simp only [Act.put])
          refine wpAnyZ_done (by kernel_rfl) ?_ _
          go_wp2_with fail
          go_roundw
          case rel => first | exact ⟨k + 1, by omega, by go_num, by rw [HAK.out]; exact own_nat_set (own_drewN HOW.out 1) _ _, HBE.out.drew.setCell (p := ⟨g2, i + k, none⟩) hg20 _⟩ | ((repeat apply Exists.intro); exact ⟨⟨k + 1, by omega, by simp, by rw [HAK.out]; exact own_nat_set (own_drewN HOW.out 1) _ _, HBE.out.drew.setCell (p := ⟨g2, i + k, none⟩) hg20 _⟩, rfl⟩)
          case measure => simp [intOf]; omega
        · obtain rfl : k = z + 1 := by omega
          have hge : ¬ (((z + 1 : Nat) : Int)) < (z : Int) + 1 := by omega
          go_wp2_with fail
          go_roundw
          case rel => first | exact ⟨i + 1, by omega, by go_num, by rw [HPK.out]; exact hown, hbel⟩ | ((repeat apply Exists.intro); exact ⟨⟨i + 1, by omega, by simp, by rw [HPK.out]; exact hown, hbel⟩, rfl⟩)
          case measure => simp [intOf]; omega
    · obtain rfl : i = np := by omega
      have hge : ¬ (i : Int) < (i : Int) := by omega
      have HLIT := Lib.hid (World.ownsRow_lit (base := w.heap.size) (size := 1) (e := 5) wo #[] 0 hbel.size (by unfold maxLen; omega) rfl)
      have HSR : Hid (SlAt wo wo.heap.size (some ⟨g2, i, none⟩) (natV ((remK inv q r0 i).drop i))) := Lib.hid (by
        have := SlAt.dropk (SlAt.of_own' hown (Nat.le_refl _)) i
        rw [Nat.zero_add, ← natV_drop] at this
        exact this)
      have HRL : Hid (((remK inv q r0 i).drop i).length = N - i) := Lib.hid (by rw [List.length_drop, HL.out])
      have HBE := Lib.hid hbel
      have hiN : (i : Int) ≤ (N : Int) := by omega
      have hiC : (i : Int) ≤ (c2 : Int) := by omega
      have hi0 : (0 : Int) ≤ (i : Int) := by omega
      clear hown hbel
      go_wp2_with (at_builtin; refine wpList_appX (s := .tmp 66) (x := .tmp 72) HLIT.out info_byte Tryz.underlying75 rfl (by decide) (by rw [natV_length, HRL.out, Nat.mul_one]) (HSR.out.below ((Below.refl _ _).alloc (Nat.le_refl _) _)) (natV_one _) (by unfold maxLen; omega) (by omega) (by have := HBE.out.size; simp; omega) rfl rfl (by rfl) (by rfl) ?_; intro v5 w5 hown5 hg5 _; have HB5 : Hid (Below w.heap.size w w5) := Lib.hid ((HBE.out.alloc HBE.out.size _).grown hg5 (by have := HBE.out.size; simp; omega) (fun k hk => (HLIT.out.lt k hk).1)); obtain ⟨A5, c5, hv5⟩ := own_slice hown5; subst hv5; have HO5 := Lib.hid hown5; clear hown5 hg5)
      go_ret2
      refine ⟨HB5.out, A5, c5, by simp only [HL.out]; rfl, ?_⟩
      have h5 := HO5.out
      rw [Nat.zero_add] at h5
      simp only [HL.out]
      exact h5

def genN : Nat → List Nat
  | 0 => [1]
  | i + 1 => prodN (genN i) [1, expN i]
theorem genN_len : ∀ i, (genN i).length = i + 1 ∧ B8 (genN i)
  | 0 => ⟨rfl, fun n hn => by rw [List.mem_singleton.1 hn]; decide⟩
  | i + 1 => by
    obtain ⟨h1, h2⟩ := genN_len i
    refine ⟨?_, prodN_b8 h2⟩
    rw [genN, prodN_length (by intro e; rw [e] at h1; cases h1) (by simp), h1]
    simp
theorem expN_lt (n : Int) : expN n < 256 := powN_lt _
set_option maxRecDepth 100000 in
set_option maxHeartbeats 2000000 in
theorem generator_any (n : Nat) (w : World) (hn : n ≤ 32) :
    Calls Tryz.prog 70 #[.int .i64 (n : Int)] w fun e w' => Below w.heap.size w w' ∧ ∃ A c, e = .returned (.tuple #[.slice A (genN n).length c, .int .i64 0]) ∧ w'.ownsRow w.heap.size 5 1 (.slice A (genN n).length c) (genN n).length (natV (genN n)) := by
  have hn0 : ¬ (n : Int) < 0 := by omega
  have hn1 : ¬ (32 : Int) < (n : Int) := by omega
  have HLIT := Lib.hid (World.ownsRow_lit (base := w.heap.size) (size := 1) (e := 5) w #[.int .u8 1] 1 (Nat.le_refl _) (by unfold maxLen; omega) rfl)
  have HB0 := Lib.hid ((Below.refl w.heap.size w).alloc (Nat.le_refl _) (.cells #[.int .u8 1] 5))
  go_enter Tryz.func70, Tryz.ntmps70
  go_wp2_with fail
  go_loopw [4, 14] (fun v i wr => ∃ (k : Nat) (A : Option Addr) (c : Nat), k ≤ n ∧ i = .int .i64 k ∧ v = .slice A (genN k).length c ∧ wr.ownsRow w.heap.size 5 1 (.slice A (genN k).length c) (genN k).length (natV (genN k)) ∧ Below w.heap.size w wr) (fun _ i _ => n - (intOf i).toNat)
  case atStart => exact ⟨0, _, _, by omega, rfl, rfl, HLIT.out, HB0.out⟩
  case round =>
    clear HLIT HB0
    obtain ⟨k, A, c, hk, rfl, rfl, hown, hbel⟩ := hrel
    by_cases hlt : k < n
    · obtain ⟨hgl, hg8⟩ := genN_len k
      have hltI : (k : Int) < (n : Int) := by omega
      have CE := Lib.hid (fun w' => exp_any (k : Int) w' (by omega))
      have he8 := expN_lt (k : Int)
      have HG : Hid (genN (k + 1) = prodN (genN k) [1, expN k]) := Lib.hid rfl
      generalize expN (k : Int) = E at *
      have hbl := (Below.refl wr.heap.size wr).alloc (Nat.le_refl _) (.cells #[.int .u8 1, .int .u8 (E : Int)] 5)
      have hlit := World.ownsRow_lit (base := w.heap.size) (size := 1) (e := 5) wr #[.int .u8 1, .int .u8 (E : Int)] 2 hbel.size (by unfold maxLen; omega) rfl
      have HB := Lib.hid (hbel.trans (hbl.mono hbel.size))
      have CP := Lib.hid (product_any A (some ⟨wr.heap.size, 0, none⟩) c 2 (genN k) [1, E] _ (SlAt.of_own' (own_all hown hbl) (Nat.le_refl _)) (SlAt.of_own' hlit (Nat.le_refl _)) hg8 (fun m hm => by
        rcases List.mem_cons.1 hm with rfl | hm
        · decide
        · rw [List.mem_singleton.1 hm]; exact he8) (by omega) (by simp))
      clear hown hbel hlit hbl
      rw [← HG.out, hgl, show ([1, E] : List Nat).length = 2 from rfl] at CP
      obtain ⟨G1, hG1⟩ : ∃ G1, genN (k + 1) = G1 := ⟨_, rfl⟩
      have HG1 := Lib.hid hG1
      rw [hG1] at CP
      have HGL : Hid (G1.length = k + 1 + 1) := Lib.hid (by rw [← hG1]; exact (genN_len (k + 1)).1)
      clear hG1
      go_wp2_with fail
      refine (CE.out _).mono ?_
      rintro e w1 ⟨rfl, rfl⟩
      go_wp2_with fail
      with_reducible refine CP.out.mono ?_
      rintro e w2 ⟨hb2, A2, c2, rfl, ho2⟩
      have HB2 := Lib.hid (HB.out.trans (hb2.mono HB.out.size))
      have HO2 := Lib.hid (own_le ho2 HB.out.size)
      clear hb2 ho2
      go_wp2_with fail
      go_roundw
      case rel => exact ⟨k + 1, A2, c2, by omega, by go_num, by rw [HG1.out], by rw [HG1.out]; exact HO2.out, HB2.out⟩
      case measure => simp [intOf]; omega
    · obtain rfl : k = n := by omega
      have hge : ¬ (k : Int) < (k : Int) := by omega
      go_wp2_with fail
      go_ret2
      exact ⟨hbel, A, c, rfl, hown⟩
end Go.Proofs.YtlnjphggfbiabaaGreat
