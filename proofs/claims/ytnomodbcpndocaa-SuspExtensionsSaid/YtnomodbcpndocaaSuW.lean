/-
  Chapter 24: Walk.
-/
import Derived.Test.YtnomodbcpndocaaSuV
import Derived.Sort.CutIn
namespace Go.Proofs.Ytnomodbcpndocaa
open Go.RowKit Go.Shelf
set_option linter.unusedVariables false
attribute [local go_sem] Oper.semAt_some

def skU (use : ByteArray) (skip : Int) : ByteArray := use.extract (min use.size skip.toNat) use.size
def wkY (img : List ByteArray) (use : ByteArray) (skip : Int) : List (List Ent) × Int × Int := wlk img 65 (skU use skip) 0
def wkL (img : List ByteArray) (use : ByteArray) (skip : Int) : List Ent := if (wkY img use skip).2.2 = 0 then (wkY img use skip).1.flatten else []
def wkB (img : List ByteArray) (use : ByteArray) (skip : Int) : Int := if (wkY img use skip).2.2 = 0 then 0 else (wkY img use skip).2.1
def WalkRes (img : List ByteArray) (use : ByteArray) (skip : Int) (w : World) (e : Ending) (w' : World) : Prop :=
  Below w.heap.size w w' ∧ ∃ A c, e = .returned (.tuple #[.slice A (wkL img use skip).length c, .int .i64 (wkB img use skip), .int .i64 (wkY img use skip).2.2]) ∧ EnAt w' w'.heap.size A (wkL img use skip)

theorem St.grown_sep {w W W' : World} {rows : Rows} {base e size n : Nat} {v : Value} {xs : List Value} (h : St w W rows) (ho : W.ownsRow base e size v n xs) (hg : W.grownBy W' v.ownBlock) (hb : w.heap.size ≤ base) (hne : ∀ r ∈ rows, v.ownBlock ≠ some r.1) : St w W' rows :=
  ⟨h.1.grown hg h.1.size (fun k hk => Nat.le_trans hb (ho.lt k hk).1), fun r hm => ⟨(h.2.1 r hm).1, (h.2.1 r hm).2.grown hg (fun e => hne r hm e.symm)⟩, h.2.2⟩
theorem areas_any (p : Addr) (A : Option Addr) (n c : Nat) (use : ByteArray) (w : World) :
    Calls Try.prog 56 #[.pointer (some p), .slice A n c, .string use] w fun e w' => e = .returned (.func (.func 67) #[] #[.pointer (some ⟨w.heap.size + 2, 0, none⟩), .pointer (some ⟨w.heap.size, 0, none⟩), .pointer (some ⟨w.heap.size + 1, 0, none⟩)]) ∧
      w' = ((w.alloc (.cells #[.pointer (some p)] 87)).alloc (.cells #[.slice A n c] 56)).alloc (.cells #[.string use] 9) := by
  go_enter Try.func56, Try.ntmps56
  go_wp2_with fail
  go_ret
  exact ⟨rfl, rfl⟩

set_option maxRecDepth 100000 in
set_option maxHeartbeats 8000000 in
theorem walk_any (A : Option Addr) (c : Nat) (img : List ByteArray) (use : ByteArray) (skip : Int) (w : World) (himg : SlAt w w.heap.size A (strV img)) (hn : img.length ≤ 1000000) (hu : use.size ≤ 1000000) (hY : ((wkY img use skip).1.flatten).length ≤ 1024) :
    Calls Try.prog 35 #[.slice A img.length c, .string use, .int .i64 skip] w (WalkRes img use skip w) := by
  have HIM := Lib.hid himg
  have HY := Lib.hid hY
  obtain ⟨u0, hu0⟩ : ∃ u0 : Nat, min use.size skip.toNat = u0 := ⟨_, rfl⟩
  have HU0 : Hid (skU use skip = use.extract u0 use.size) := Lib.hid (by unfold skU; rw [hu0])
  have hus : u0 ≤ use.size := by omega
  obtain ⟨n, hn2⟩ : ∃ n, img.length = n := ⟨_, rfl⟩
  have HN := Lib.hid hn2
  rw [hn2] at hn ⊢
  clear himg hY hn2
  refine (callsIn_wide (n := 5)).1 ?_
  refine callsIn_of_wp_marks Try.func35 rfl trivial ?_ rfl
  simp only [Try.ntmps35, List.size_toArray, List.length_cons, List.length_nil, Nat.reduceAdd, Nat.reduceSub, Array.replicate_succ, Array.replicate_zero, List.push_toArray, List.append_toArray, List.nil_append, List.cons_append]
  refine wpIn_wide.2 ?_
  have hm1 : (0 : Int) ≤ min (use.size : Int) (max 0 skip) := by omega
  have hm2 : min (use.size : Int) (max 0 skip) ≤ (use.size : Int) := by omega
  have HM3 : Hid ((min (use.size : Int) (max 0 skip)).toNat = u0) := Lib.hid (by omega)
  go_upto_region 2 with fail
  rw [HM3.out]
  rw [← HU0.out]
  have hus2 : (skU use skip).size ≤ 1000000 := by rw [HU0.out, ByteArray.size_extract]; omega
  have HYY : Hid (wlk img 65 (skU use skip) 0 = wkY img use skip) := Lib.hid rfl
  obtain ⟨U, hU⟩ : ∃ U, skU use skip = U := ⟨_, rfl⟩
  rw [hU] at hus2 HYY ⊢
  clear hU HM3 HU0 hm1 hm2 hus
  have hst := ((((((St.start w).new (g := w.heap.size) rfl #[.slice none 0 0] 22).new (g := w.heap.size + 1) (by simp) #[.int .i64 0, .int .i64 0] 89).new (g := w.heap.size + 1 + 1) (by simp) #[.pointer (some ⟨w.heap.size + 1, 0, none⟩)] 87).new (g := w.heap.size + 1 + 1 + 1) (by simp) #[.pointer (some ⟨w.heap.size + 1, 0, none⟩)] 87).new (g := w.heap.size + 1 + 1 + 1 + 1) (by simp) #[.slice A n c] 56).new (g := w.heap.size + 1 + 1 + 1 + 2) (by simp) #[.string U] 9
  have HST := Lib.hid hst
  have C := Lib.hid (areas_any ⟨w.heap.size + 1, 0, none⟩ A n c U (((w.alloc (.cells #[.slice none 0 0] 22)).alloc (.cells #[.int .i64 0, .int .i64 0] 89)).alloc (.cells #[.pointer (some ⟨w.heap.size + 1, 0, none⟩)] 87)))
  have hsz : (((w.alloc (.cells #[.slice none 0 0] 22)).alloc (.cells #[.int .i64 0, .int .i64 0] 89)).alloc (.cells #[.pointer (some ⟨w.heap.size + 1, 0, none⟩)] 87)).heap.size = w.heap.size + 1 + 1 + 1 := by simp
  rw [hsz] at C
  clear hst hsz
  go_wp2_with fail
  refine C.out.mono ?_
  rintro e w1 ⟨rfl, hw1⟩
  rw [← hw1] at HST
  clear hw1 C
  go_wp2_with fail
  refine (wpIn_wide (n := 5)).1 ?_
  obtain ⟨Bo, hBo⟩ : ∃ B, w.heap.size = B := ⟨_, rfl⟩
  obtain ⟨Bw, hBw⟩ : ∃ B, Bo + 1 = B := ⟨_, rfl⟩
  obtain ⟨Bp, hBp⟩ : ∃ B, Bo + 1 + 1 = B := ⟨_, rfl⟩
  obtain ⟨Bwp, hBwp⟩ : ∃ B, Bo + 1 + 1 + 1 = B := ⟨_, rfl⟩
  obtain ⟨Bi, hBi⟩ : ∃ B, Bo + 1 + 1 + 1 + 1 = B := ⟨_, rfl⟩
  obtain ⟨Bu, hBu⟩ : ∃ B, Bo + 1 + 1 + 1 + 2 = B := ⟨_, rfl⟩
  have HBO := Lib.hid hBo
  have H0 : Hid (WkI w Bo (wkRows Bi Bwp Bu Bp Bw A n c U 0 0) [] w1) := Lib.hid (by
    have h := HST.out
    rw [hBo, hBi, hBu, hBwp, hBp, hBw] at h
    refine ⟨.slice none 0 0, ⟨h.bel, fun r hr => ?_, ?_⟩, World.ownsRow_nil _ _ _ _, fun r _ e => by cases e⟩
    · simp only [List.mem_cons, List.not_mem_nil, or_false] at hr
      rcases hr with rfl | rfl | rfl | rfl | rfl | rfl
      · exact ⟨h.base (i := 5) rfl, h.at (i := 5) rfl⟩
      · exact ⟨h.base (i := 1) rfl, h.at (i := 1) rfl⟩
      · exact ⟨h.base (i := 2) rfl, h.at (i := 2) rfl⟩
      · exact ⟨h.base (i := 0) rfl, h.at (i := 0) rfl⟩
      · exact ⟨h.base (i := 3) rfl, h.at (i := 3) rfl⟩
      · exact ⟨h.base (i := 4) rfl, h.at (i := 4) rfl⟩
    · simp only [List.pairwise_cons, List.mem_cons, List.not_mem_nil, or_false, forall_eq_or_imp, forall_eq, List.Pairwise.nil, and_true, false_imp_iff, implies_true]
      omega)
  have hb1 : w.heap.size ≤ w1.heap.size := HST.out.bel.size
  have HSEQ := Lib.hid (areas1_seq w Bo Bi Bwp Bu Bp Bw A c img U HIM.out hus2 (by rw [HN.out]; exact hn) (by rw [HYY.out]; exact HY.out))
  rw [HYY.out, HN.out] at HSEQ
  rw [hBo, hBi, hBu, hBwp, hBp, hBw]
  clear hBo hBw hBp hBwp hBi hBu HST
  refine range_own rfl (by omega) (gf := 67) (lb := #[.pointer (some ⟨Bu, 0, none⟩), .pointer (some ⟨Bwp, 0, none⟩), .pointer (some ⟨Bi, 0, none⟩)]) rfl trivial (enters_of Try.func67 (by kernel_rfl) rfl)
    (encs := Yl.enc) (fun _ => rfl) (I := WkI w Bo) (Px := WkP) HSEQ.out (fun σ => WkI.own hb1 σ) (fun pre => WkP.own pre) H0.out
    (fun x => { tmps := #[.slice A n c, .string U, .int .i64 skip, undef, undef, undef, .slice none 0 0, .int .i64 0, .int .i64 0, .pointer (some ⟨Bo, 0, none⟩), .pointer (some ⟨Bp, 0, none⟩), .slice x.A x.l.length x.c, .string use, .string use,
      .int .i64 (use.size : Int), .int .i64 skip, .int .i64 (max 0 skip), .int .i64 (min (use.size : Int) (max 0 skip)), .string U, .agg #[.int .i64 0, .int .i64 0], .pointer (some ⟨Bw, 0, none⟩), .pointer (some ⟨Bw, 0, none⟩), .slice A n c, .string U,
      .func (.func 67) #[] #[.pointer (some ⟨Bu, 0, none⟩), .pointer (some ⟨Bwp, 0, none⟩), .pointer (some ⟨Bi, 0, none⟩)], .slice x.A x.l.length x.c,
      undef, undef, undef, undef, undef, undef, undef, undef, undef, undef, undef, undef, undef, undef, undef, undef, undef, undef, undef, undef, undef, undef, undef], defers := [] }) ?assign ?body ?done
  case assign =>
    rintro l ⟨xA, xc, xl⟩ W K hK
    dsimp only [Yl.enc] at hK ⊢
    gi_wp2
    exact hK
  case body =>
    rintro l σ pre ⟨xA, xc, xl⟩ W ⟨v, hst, hown, hsep⟩ ⟨hen, htot⟩
    dsimp only at hen ⊢
    obtain ⟨Av, cv, hv⟩ := own_slice hown
    subst hv
    have HTOT : Hid ((allE pre).length + xl.length ≤ 1024) := Lib.hid (by rw [allE_snoc, List.length_append] at htot; exact htot)
    have HAL : Hid (flat encE (allE pre) ++ flat encE xl = flat encE (allE (pre ++ [⟨xA, xc, xl⟩]))) := Lib.hid (by rw [allE_snoc]; simp [flat])
    have HLN : Hid ((allE pre).length + xl.length = (allE (pre ++ [⟨xA, xc, xl⟩])).length) := Lib.hid (by rw [allE_snoc, List.length_append])
    have HFL := Lib.hid (flat_length encE_length xl)
    have HO := Lib.hid hown
    have HS := Lib.hid hst
    have HP := Lib.hid hsep
    have HE := Lib.hid hen
    have htt := HTOT.out
    have qo := (hst.at (i := 0) rfl).cell
    have fo := (hst.at (i := 0) rfl).frozen
    have hbs := hst.bel.size
    generalize allE pre = AP at *
    obtain ⟨AQ, hAQ⟩ : ∃ AQ, allE (pre ++ [⟨xA, xc, xl⟩]) = AQ := ⟨_, rfl⟩
    have HAQ := Lib.hid hAQ
    rw [hAQ] at HAL HLN
    clear hAQ
    obtain ⟨np, hnp⟩ : ∃ np, AP.length = np := ⟨_, rfl⟩
    obtain ⟨nx, hnx⟩ : ∃ nx, xl.length = nx := ⟨_, rfl⟩
    rw [hnp] at HO HS HP HLN htt qo
    rw [hnx] at HLN HFL htt ⊢
    clear hown hst hsep hen htot hnp hnx HTOT
    gi_upto_region 6 with fail
    refine wpIn_list_of (by kernel_rfl) (by rintro ⟨a, w, h⟩; exact h) ?_
    go_wp2_with (at_builtin; refine wpList_appX HO.out info_ent Try.underlying22 rfl (by decide) HFL.out HE.out (encE_one _) (by unfold maxLen; omega) (by omega) (by omega) rfl rfl (by rfl) (by rfl) ?_; intro v5 w6 hown6 hg6 hv6; have hst6 := St.grown_sep HS.out HO.out hg6 (Nat.le_refl _) (by intro r hr; rcases List.mem_cons.1 hr with rfl | hr; exact fun e => own_row_ne HO.out (HS.out.at (i := 0) rfl) (by decide) _ e rfl; exact HP.out r hr); have k6 := KeepsOthers.of_own HO.out hg6; obtain ⟨A5, c5, hv5⟩ := own_slice hown6; subst hv5; have q6 := (hst6.at (i := 0) rfl).cell; have f6 := (hst6.at (i := 0) rfl).frozen)
    have hr6 := hst6.at (i := 0) rfl
    have hst7 := hst6.set 0 rfl 0 (.slice A5 (np + nx) c5)
    have hown7 := own_set_ty (j := 0) (u := .slice A5 (np + nx) c5) hown6 hr6 (by decide)
    rw [HAL.out] at hown7
    have hsep7 : ∀ r ∈ σ, (Value.slice A5 (np + nx) c5).ownBlock ≠ some r.1 := by
      intro r hr e
      rcases hv6 with h | h
      · exact HP.out r hr (h ▸ e)
      · rw [h] at e
        injection e with e
        have := (HS.out.2.1 r (List.mem_cons_of_mem _ hr)).2.lt
        omega
    have E7 := Lib.hid (And.intro (k6.trans (KeepsOthers.setCell w6 ⟨Bo, 0, none⟩ (.slice A5 (np + nx) c5))) (And.intro hst7 (And.intro hown7 hsep7)))
    have q7 : (w6.setCell ⟨Bo, 0, none⟩ (.slice A5 (np + nx) c5)).cell? ⟨Bo, 0, none⟩ = some (.slice A5 (np + nx) c5) := (hst7.at (i := 0) rfl).cell 0
    have hle : ¬ (1024 : Int) < ((np + nx : Nat) : Int) := by omega
    have hle2 : ¬ (1024 : Int) < (np : Int) + (nx : Int) := by omega
    clear hst6 hr6 hst7 hown7 hsep7 hown6 hg6 hv6 k6 q6 f6 qo fo
    generalize w6.setCell ⟨Bo, 0, none⟩ (.slice A5 (np + nx) c5) = w7 at *
    gi_wp2
    exact ⟨E7.out.1, .slice A5 (np + nx) c5, E7.out.2.1, by rw [HAQ.out, ← HLN.out]; exact E7.out.2.2.1, E7.out.2.2.2⟩
  case done =>
    rintro D σ xs W hD ⟨hmap, use', rfl⟩ ⟨v, hst, hown, hsep⟩ hK
    obtain ⟨Av, cv, hv⟩ := own_slice hown
    subst hv
    have hflat : allE xs = (wkY img use skip).1.flatten := by rw [allE_map, hmap]
    rw [hflat] at hown hst
    have HLL : Hid (wkL img use skip = if (wkY img use skip).2.2 = 0 then (wkY img use skip).1.flatten else []) := Lib.hid rfl
    have HBB : Hid (wkB img use skip = if (wkY img use skip).2.2 = 0 then 0 else (wkY img use skip).2.1) := Lib.hid rfl
    obtain ⟨FL, hFL⟩ : ∃ x, (wkY img use skip).1.flatten = x := ⟨_, rfl⟩
    have HeFL := Lib.hid hFL
    obtain ⟨LB, hLB⟩ : ∃ x, (wkY img use skip).2.1 = x := ⟨_, rfl⟩
    have HeLB := Lib.hid hLB
    obtain ⟨ER, hER⟩ : ∃ x, (wkY img use skip).2.2 = x := ⟨_, rfl⟩
    have HeER := Lib.hid hER
    obtain ⟨RL, hRL⟩ : ∃ x, wkL img use skip = x := ⟨_, rfl⟩
    have HeRL := Lib.hid hRL
    obtain ⟨RB, hRB⟩ : ∃ x, wkB img use skip = x := ⟨_, rfl⟩
    have HeRB := Lib.hid hRB
    rw [hFL] at hflat hown hst
    rw [hLB, hER] at hst
    rw [hRL, hER, hFL] at HLL
    rw [hRB, hER, hLB] at HBB
    clear hFL hLB hER hRL hRB
    obtain ⟨nf, hnf⟩ : ∃ nf, FL.length = nf := ⟨_, rfl⟩
    have HNF := Lib.hid hnf
    rw [hnf] at hown hst
    have qp := (hst.at (i := 4) rfl).cell
    have q4 := (hst.at (i := 5) rfl).cell
    have qo := (hst.at (i := 0) rfl).cell
    have HS := Lib.hid hst
    have HO := Lib.hid hown
    have hbs := hst.bel.size
    have hDw : w.heap.size ≤ D := by omega
    clear hst hown hsep hmap hflat hnf
    by_cases hE : ER = 0
    · subst hE
      have hg := grownBy_putObj' W D (.deferred none)
      have hc : ∀ q, some D = some q → w.heap.size ≤ q ∧ ∃ o : Obj, W.heap[q]? = some o ∧ o.isCells = false := fun q e => by cases e; exact ⟨hDw, _, hK, rfl⟩
      have HF := Lib.hid (And.intro (HS.out.bel.grown hg hbs (fun k e => (hc k e).1)) (ownsRow_own HO.out hg hc))
      clear hg hc
      have HRL : Hid (RL = FL) := Lib.hid (by have := HLL.out; simpa using this)
      have HRB : Hid (RB = 0) := Lib.hid (by have := HBB.out; simpa using this)
      gi_wp2
      go_wp2_with fail
      refine ⟨by simp, .inl ⟨_, _, rfl, run_takeDeferred hK, ?_⟩⟩
      refine ⟨.tuple #[.slice Av nf cv, .int .i64 0, .int .i64 0], ?_, HF.out.1, Av, cv, by rw [HeRL.out, HeRB.out, HeER.out, HRL.out, HNF.out, HRB.out], ?_⟩
      · simp [results, Try.f35, go_sem]
      · rw [HeRL.out, HRL.out]
        exact SlAt.of_own' HF.out.2 (Nat.le_refl _)
    · have HRL : Hid (RL = []) := Lib.hid (by rw [HLL.out, if_neg hE])
      have HRB : Hid (RB = LB) := Lib.hid (by rw [HBB.out, if_neg hE])
      have hEB : (ER != 0) = true := by simpa using hE
      clear HLL HBB
      gi_wp2
      go_upto_region 10 with fail
      refine wp_region_noPanic ?_
      refine wp_region_held_drew (S := (fun w' => St w w' ((Bo, 22, #[.slice Av nf cv]) :: wkRows Bi Bwp Bu Bp Bw A n c use' LB ER))) (by kernel_rfl) (HS.out.drew) (fun hHeld => ?_)
      refine wpAnyH_take (i := 0) (oi := ?o1) (v := ?v1) ?hi1 (by kernel_rfl) (by kernel_rfl) (by kernel_rfl) ?hq1 ?hy1 (by assumption) ?hr1
      case hi1 => (simp only [List.getElem?_toArray, List.getElem?_cons_zero]; rfl)
      case hy1 => ((refine .inl ⟨by rfl, ?_⟩); intro w hS; have q := (St.at hS (i := 4) rfl).cell; go_simp; (try with_reducible rfl))
      case hq1 => exact fun _ _ _ h => h
      (simp only [Act.put, List.setIfInBounds_toArray, List.set_cons_zero, List.set_cons_succ])
      refine wpAnyH_take (i := 1) (oi := ?o2) (v := ?v2) ?hi2 (by kernel_rfl) (by kernel_rfl) (by kernel_rfl) ?hq2 ?hy2 (by assumption) ?hr2
      case hi2 => (simp only [List.getElem?_toArray, List.getElem?_cons_succ, List.getElem?_cons_zero]; rfl)
      case hy2 => ((refine .inl ⟨by rfl, ?_⟩); intro w hS; go_simp; (try with_reducible rfl))
      case hq2 => exact fun _ _ _ h => h
      (simp only [Act.put, List.setIfInBounds_toArray, List.set_cons_zero, List.set_cons_succ])
      refine wpAnyH_take (i := 2) (oi := ?o3) (v := ?v3) ?hi3 (by kernel_rfl) (by kernel_rfl) (by kernel_rfl) ?hq3 ?hy3 (by assumption) ?hr3
      case hi3 => (simp only [List.getElem?_toArray, List.getElem?_cons_succ, List.getElem?_cons_zero]; rfl)
      case hy3 => ((refine .inl ⟨by rfl, ?_⟩); intro w hS; go_simp; (try with_reducible rfl))
      case hq3 => exact fun _ _ _ h => h
      (simp only [Act.put, List.setIfInBounds_toArray, List.set_cons_zero, List.set_cons_succ])
      refine wpAnyH_take (i := 3) (oi := ?o4) (v := ?v4) ?hi4 (by kernel_rfl) (by kernel_rfl) (by kernel_rfl) ?hq4 ?hy4 (by assumption) ?hr4
      case hi4 => (simp only [List.getElem?_toArray, List.getElem?_cons_succ, List.getElem?_cons_zero]; rfl)
      case hy4 => ((refine .inl ⟨by rfl, ?_⟩); intro w hS; have q := (St.at hS (i := 5) rfl).cell; go_simp; (try with_reducible rfl))
      case hq4 => exact fun _ _ _ h => h
      (simp only [Act.put, List.setIfInBounds_toArray, List.set_cons_zero, List.set_cons_succ])
      refine wpAnyH_take (i := 4) (oi := ?o5) (v := ?v5) ?hi5 (by kernel_rfl) (by kernel_rfl) (by kernel_rfl) ?hq5 ?hy5 (by assumption) ?hr5
      case hi5 => (simp only [List.getElem?_toArray, List.getElem?_cons_succ, List.getElem?_cons_zero]; rfl)
      case hy5 => ((refine .inl ⟨by rfl, ?_⟩); intro w hS; have q := (St.at hS (i := 4) rfl).cell; go_simp; (try with_reducible rfl))
      case hq5 => exact fun _ _ _ h => h
      (simp only [Act.put, List.setIfInBounds_toArray, List.set_cons_zero, List.set_cons_succ])
      refine wpAnyH_take (i := 5) (oi := ?o6) (v := ?v6) ?hi6 (by kernel_rfl) (by kernel_rfl) (by kernel_rfl) ?hq6 ?hy6 (by assumption) ?hr6
      case hi6 => (simp only [List.getElem?_toArray, List.getElem?_cons_succ, List.getElem?_cons_zero]; rfl)
      case hy6 => ((refine .inl ⟨by rfl, ?_⟩); intro w hS; go_simp; (try with_reducible rfl))
      case hq6 => exact fun _ _ _ h => h
      (simp only [Act.put, List.setIfInBounds_toArray, List.set_cons_zero, List.set_cons_succ])
      refine wpAnyH_take (i := 6) (oi := ?o7) (v := ?v7) ?hi7 (by kernel_rfl) (by kernel_rfl) (by kernel_rfl) ?hq7 ?hy7 (by assumption) ?hr7
      case hi7 => (simp only [List.getElem?_toArray, List.getElem?_cons_succ, List.getElem?_cons_zero]; rfl)
      case hy7 => ((refine .inl ⟨by rfl, ?_⟩); intro w hS; go_simp; (try with_reducible rfl))
      case hq7 => exact fun _ _ _ h => h
      (simp only [Act.put, List.setIfInBounds_toArray, List.set_cons_zero, List.set_cons_succ])
      refine wpAnyH_take (i := 7) (oi := ?o8) (v := ?v8) ?hi8 (by kernel_rfl) (by kernel_rfl) (by kernel_rfl) ?hq8 ?hy8 (by assumption) ?hr8
      case hi8 => (simp only [List.getElem?_toArray, List.getElem?_cons_succ, List.getElem?_cons_zero]; rfl)
      case hy8 => ((refine .inl ⟨by rfl, ?_⟩); intro w hS; have q := (St.at hS (i := 5) rfl).cell; go_simp; (try with_reducible rfl))
      case hq8 => exact fun _ _ _ h => h
      (simp only [Act.put, List.setIfInBounds_toArray, List.set_cons_zero, List.set_cons_succ])
      refine wpAnyH_take (i := 8) (oi := ?o9) (v := ?v9) ?hi9 (by kernel_rfl) (by kernel_rfl) (by kernel_rfl) ?hq9 ?hy9 (by assumption) ?hr9
      case hi9 => (simp only [List.getElem?_toArray, List.getElem?_cons_succ, List.getElem?_cons_zero]; rfl)
      case hy9 => ((refine .inl ⟨by rfl, ?_⟩); intro w hS; go_simp; (try with_reducible rfl))
      case hq9 => exact fun _ _ _ h => h
      (simp only [Act.put, List.setIfInBounds_toArray, List.set_cons_zero, List.set_cons_succ])
      refine wpAnyH_take (i := 9) (oi := ?o10) (v := ?v10) ?hi10 (by kernel_rfl) (by kernel_rfl) (by kernel_rfl) ?hq10 ?hy10 (by assumption) ?hr10
      case hi10 => (simp only [List.getElem?_toArray, List.getElem?_cons_succ, List.getElem?_cons_zero]; rfl)
      case hy10 => ((refine .inl ⟨by rfl, ?_⟩); intro w hS; go_simp; (try with_reducible rfl))
      case hq10 => exact fun _ _ _ h => h
      (simp only [Act.put, List.setIfInBounds_toArray, List.set_cons_zero, List.set_cons_succ])
      refine wpAnyH_take (i := 10) (oi := ?o11) (v := ?v11) ?hi11 (by kernel_rfl) (by kernel_rfl) (by kernel_rfl) ?hq11 ?hy11 (by assumption) ?hr11
      case hi11 => (simp only [List.getElem?_toArray, List.getElem?_cons_succ, List.getElem?_cons_zero]; rfl)
      case hy11 => ((refine .inl ⟨by rfl, ?_⟩); intro w hS; go_simp; (try with_reducible rfl))
      case hq11 => exact fun _ _ _ h => h
      (simp only [Act.put, List.setIfInBounds_toArray, List.set_cons_zero, List.set_cons_succ])
      refine wpAnyH_done (by kernel_rfl) ?_ _
      refine NoPanic.normal ?_
      have hKd : W.drew.heap[D]? = some (.deferred (some [])) := hK
      have hg := grownBy_putObj' W.drew D (.deferred none)
      have hc : ∀ q, some D = some q → w.heap.size ≤ q ∧ ∃ o : Obj, W.drew.heap[q]? = some o ∧ o.isCells = false := fun q e => by cases e; exact ⟨hDw, _, hKd, rfl⟩
      have HF := Lib.hid (hHeld.bel.grown hg hHeld.bel.size (fun k e => (hc k e).1))
      have HKd := Lib.hid hKd
      clear hg hc hHeld hKd
      go_wp2_with fail
      refine ⟨by simp, .inl ⟨_, _, rfl, run_takeDeferred HKd.out, ?_⟩⟩
      refine ⟨.tuple #[.slice none 0 0, .int .i64 LB, .int .i64 ER], ?_, HF.out, none, 0, by rw [HeRL.out, HeRB.out, HeER.out, HRL.out, HRB.out]; rfl, ?_⟩
      · simp [results, Try.f35, go_sem]
      · rw [HeRL.out, HRL.out]
        exact EnAt.nil _ _ _
end Go.Proofs.Ytnomodbcpndocaa
