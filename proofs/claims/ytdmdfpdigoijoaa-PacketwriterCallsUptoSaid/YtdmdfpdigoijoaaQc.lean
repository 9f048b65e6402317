import Derived.Test.YtdmdfpdigoijoaaQa
import Derived.Test.YtdmdfpdigoijoaaPwP1
import Derived.Test.YtdmdfpdigoijoaaAppAny
import Derived.Test.YtdmdfpdigoijoaaHeld
import Derived.Test.YtdmdfpdigoijoaaBridge
import Derived.Deep.Cut
import Derived.Deep.CutRange
import Derived.BigQuiet
import Derived.Test.YtdmdfpdigoijoaaPwFm
/-
  Chapter 52: Append and Reserve of the reference.
-/
namespace Go.Proofs.Ytdmdfpdigoijoaa
open Go.RowKit
set_option linter.unusedVariables false

/-- The list of the reference's writer is the one that came in, or a row of the call's own. -/
def KeepOr (w w' : World) (Al A : Option Addr) (cl c : Nat) (l l' : List Pend) : Prop := (A = Al ∧ c = cl ∧ l' = l) ∨ w'.ownsRow w.heap.size 121 2 (.slice A l'.length c) l'.length (flat encP l')
/-- What the reference's writer is behind a call, the addresses, the error. -/
def RWRes (st ba : Int) (Al : Option Addr) (cl : Nat) (l l' : List Pend) (out : List Int) (E : Int) (w : World) (e : Ending) (w' : World) : Prop :=
  Below w.heap.size w w' ∧ ∃ A c Ao co, e = .returned (.tuple #[rwV st ba A l'.length c, .slice Ao out.length co, .int .i64 E]) ∧ KeepOr w w' Al A cl c l l' ∧ w'.ownsRow w.heap.size 3 1 (.slice Ao out.length co) out.length (intV out)
theorem info_rpend : (Try.prog.info? 121).map (fun i => (i.zero, i.size, i.bytes)) = some (some (.agg #[.int .i64 0, .string ByteArray.empty]), 2, 24) := by kernel_rfl
theorem encP_one {l : List Pend} : ∀ u ∈ flat encP l, u.oneCell' = true := by
  intro u hu
  unfold flat at hu
  obtain ⟨x, _, hx⟩ := List.mem_flatMap.1 hu
  simp only [encP, List.mem_cons, List.not_mem_nil, or_false] at hx
  rcases hx with rfl | rfl <;> rfl
section
variable {P : Program}
/-- A slice that may be nil, appended to a row of the call's own, within a drawn region. -/
theorem step_appX {ops : Array Oper} {o : Oper} {a : Act} {K : Act → World → Prop} {Q : Exit → Act → World → Prop} {E : Prop} {s x : Operand} {t : TypeId} {base B : Nat} {e : TypeId} {z : Value} {size bytes : Nat} {w : World} {v : Value} {n m c : Nat} {A : Option Addr} {xs news : List Value}
    (hown : w.ownsRow base e size v n xs) (hinfo : (P.info? e).map (fun i => (i.zero, i.size, i.bytes)) = some (some z, size, bytes)) (ht : P.underlying t = some (.slice e)) (hzs : z.cells.size = size) (hsz : 0 < size)
    (hl : news.length = m * size) (hnews : SlAt w B A news) (h1 : ∀ u ∈ news, u.oneCell' = true)
    (h63 : n + m ≤ maxLen) (hbytes : (n + m) * bytes ≤ 140737488355328) (hbase : base ≤ w.heap.size)
    (hgd : o.guard = none) (ho : o.op = .call { callee := .builtin .append, args := #[s, x], argTypes := #[t, t] }) (hs : a.eval s = v) (hx : a.eval x = .slice A m c)
    (h : ∀ v' w', w'.ownsRow base e size v' (n + m) (xs ++ news) → w.grownBy w' v.ownBlock → (v'.ownBlock = v.ownBlock ∨ v'.ownBlock = some w.heap.size) → K (a.put o.dst v') w') :
    if Region.wanted o (yielded ops a.tmps) = true then Oper.wp P o a w K Q else E := by
  have hw : Region.wanted o (yielded ops a.tmps) = true := by simp [Region.wanted, hgd]
  rw [if_pos hw]
  obtain ⟨i0, hi, hz0, hz1, hz2⟩ := info_parts hinfo
  cases A with
  | none =>
    have hm : news = [] := by
      cases news with
      | nil => rfl
      | cons u r =>
        obtain ⟨b, off, hA, _⟩ := hnews 0 u rfl
        cases hA
    subst hm
    have hm0 : m = 0 := by
      rcases Nat.eq_zero_or_pos m with h0 | h0
      · exact h0
      · have := Nat.mul_pos h0 hsz
        rw [← hl] at this
        cases this
    subst hm0
    have hrun := appX_nil (P := P) (w := w) (ty := o.type) ht hi hown c
    unfold Oper.wp execOp
    simp only [ho, resolve, invoke, builtin, Sem.run_bind, Sem.run_pure, Result.andThen_ok, List.map_toArray, List.map_cons, List.map_nil, hs, hx, hrun]
    exact h v w (by rw [List.append_nil]; exact hown) ⟨rfl, rfl, rfl, Nat.le_refl _, fun _ _ _ => rfl⟩ (.inl rfl)
  | some ad =>
    obtain ⟨v', w', hrun, hown', hg, _, hb⟩ := run_append_own_at (P := P) w base t o.type e i0 z size bytes ht hi hz0 hz1 hz2 hzs hsz v n xs hown ad m c news hl (by
      intro j u hu
      obtain ⟨b, off, hA, _, hc⟩ := hnews j u hu
      injection hA with hA
      subst hA
      have hadd : (⟨b, off, none⟩ : Addr).add j = ⟨b, off + j, none⟩ := by unfold Addr.add; split <;> simp_all
      rw [hadd]
      exact hc) h1 h63 hbytes hbase
    unfold Oper.wp execOp
    simp only [ho, resolve, invoke, builtin, Sem.run_bind, Sem.run_pure, Result.andThen_ok, List.map_toArray, List.map_cons, List.map_nil, hs, hx, hrun]
    exact h v' w' hown' hg hb
end
def apL (st ba : Int) (l : List Pend) (bl : List ByteArray) : List Pend := if bl.all blkOk = true then (match asgL st ba l bl.length with | some out => moreP l out bl out.length | none => l) else l
def apO (st ba : Int) (l : List Pend) (bl : List ByteArray) : List Int := if bl.all blkOk = true then (asgL st ba l bl.length).getD [] else []
def apE (st ba : Int) (l : List Pend) (bl : List ByteArray) : Int := if bl.all blkOk = true then (if asgL st ba l bl.length = none then 12 else 0) else 1

section
variable {ba : Int} {l : List Pend} {bl : List ByteArray} {out : List Int}
theorem apX_bad (st ba : Int) (l : List Pend) {bl : List ByteArray} (h : bl.all blkOk = false) : apL st ba l bl = l ∧ apO st ba l bl = [] ∧ apE st ba l bl = 1 := by
  unfold apL apO apE
  rw [h]
  exact ⟨rfl, rfl, rfl⟩
theorem apX_full {st : Int} (h : bl.all blkOk = true) (hR : asgL st ba l bl.length = none) : apL st ba l bl = l ∧ apO st ba l bl = [] ∧ apE st ba l bl = 12 := by
  unfold apL apO apE
  rw [h, hR]
  exact ⟨rfl, rfl, rfl⟩
theorem apX_ok {st : Int} (h : bl.all blkOk = true) (hR : asgL st ba l bl.length = some out) : apL st ba l bl = moreP l out bl out.length ∧ apO st ba l bl = out ∧ apE st ba l bl = 0 := by
  unfold apL apO apE
  rw [h, hR]
  exact ⟨rfl, rfl, rfl⟩
end
theorem below_set3 {B g : Nat} {a w : World} (h : Below B a w) (hg : B ≤ g) (x y z : Value) : Below B a (((w.setCell ⟨g, 0, none⟩ x).setCell ⟨g, 1, none⟩ y).setCell ⟨g, 2, none⟩ z) :=
  ((h.setCell (p := ⟨g, 0, none⟩) hg x).setCell (p := ⟨g, 1, none⟩) hg y).setCell (p := ⟨g, 2, none⟩) hg z
theorem own_set3 {W : World} {base e size n g : Nat} {v : Value} {xs : List Value} (h : W.ownsRow base e size v n xs) (hg : g < base) (x y z : Value) : (((W.setCell ⟨g, 0, none⟩ x).setCell ⟨g, 1, none⟩ y).setCell ⟨g, 2, none⟩ z).ownsRow base e size v n xs :=
  own_set (own_set (own_set h hg) hg) hg

set_option maxRecDepth 100000 in
set_option maxHeartbeats 4000000 in
theorem rappend_any (st ba : Int) (Al A : Option Addr) (cl c : Nat) (l : List Pend) (bl : List ByteArray) (w : World) (h : PnAt w w.heap.size Al l) (hs : SlAt w w.heap.size A (strV bl)) (hl : l.length ≤ 100000) (hbl : bl.length ≤ 100000) (hst : 0 ≤ st) (h1 : st ≤ nextL ba l) (h2 : nextL ba l ≤ 4200) :
    Calls Try.prog 46 #[rwV st ba Al l.length cl, .slice A bl.length c] w (RWRes st ba Al cl l (apL st ba l bl) (apO st ba l bl) (apE st ba l bl) w) := by
  have CA := Lib.hid (fun w' (hb : Below w.heap.size w w') => rassign_any st ba Al cl l bl.length w' ((h.below hb).mono hb.size) (by omega) (by omega) hst h1 h2)
  have HP := Lib.hid h
  have HS := Lib.hid hs
  obtain ⟨m, hm⟩ : ∃ m, l.length = m := ⟨_, rfl⟩
  have HM := Lib.hid hm
  obtain ⟨n, hn⟩ : ∃ n, bl.length = n := ⟨_, rfl⟩
  have HN := Lib.hid hn
  rw [hm, hn] at CA ⊢
  rw [hm] at hl
  rw [hn] at hbl
  unfold rwV RAsg at CA
  unfold rwV
  have HB0 := Lib.hid (((Below.refl w.heap.size w).alloc (Nat.le_refl _) (.cells #[.int .i64 st, .int .i64 ba, .slice Al m cl] 76)).alloc (by simp) (.cells #[.int .i64 0, .int .i64 0, .slice none 0 0] 76))
  have HRB := Lib.hid ((RowAt.new w 76 #[.int .i64 st, .int .i64 ba, .slice Al m cl]).alloc (.cells #[.int .i64 0, .int .i64 0, .slice none 0 0] 76))
  have HRZ := Lib.hid (RowAt.new (w.alloc (.cells #[.int .i64 st, .int .i64 ba, .slice Al m cl] 76)) 76 #[.int .i64 0, .int .i64 0, .slice none 0 0])
  have hgz : (w.alloc (.cells #[.int .i64 st, .int .i64 ba, .slice Al m cl] 76)).heap.size = w.heap.size + 1 := by simp
  rw [hgz] at HRZ
  clear h hs hm hn hgz
  go_enter Try.func46, Try.ntmps46
  go_upto_region 1 with fail
  generalize (w.alloc (.cells #[.int .i64 st, .int .i64 ba, .slice Al m cl] 76)).alloc (.cells #[.int .i64 0, .int .i64 0, .slice none 0 0] 76) = w1 at *
  have qb := HRB.out.cell
  have qz := HRZ.out.cell
  have fz := HRZ.out.frozen
  have hg0 := HRB.out.lt
  have hg1 := HRZ.out.lt
  go_wp2_with fail
  go_loopw [7] (fun i wr => ∃ k : Nat, k ≤ n ∧ i = .int .i64 k ∧ Hid (∀ j, j < k → blkOk (bl[j]?.getD blankS) = true) ∧ wr = w1) (fun i _ => n - (intOf i).toNat)
  case atStart => exact ⟨0, by omega, rfl, Lib.hid (fun j hj => absurd hj (by omega)), rfl⟩
  case round =>
    obtain ⟨k, hk, rfl, HOK, rfl⟩ := hrel
    by_cases hlt : k < n
    · have hltI : (k : Int) < (n : Int) := by omega
      have h0k : (0 : Int) ≤ (k : Int) := by omega
      obtain ⟨s, hs⟩ : ∃ s, bl[k]? = some s := ⟨bl[k]'(by rw [HN.out]; exact hlt), List.getElem?_eq_getElem _⟩
      obtain ⟨sb, so, hA, hsb⟩ := HS.out.strAddr (by rw [HN.out]; omega)
      subst hA
      have q5 := (HS.out.below HB0.out).str rfl hs
      have HSS := Lib.hid hs
      clear hs
      by_cases hsz : s.size = 2048
      · have hszI : (s.size : Int) = 2048 := by omega
        have hok : Hid (∀ j, j < k + 1 → blkOk (bl[j]?.getD blankS) = true) := Lib.hid (fun j hj => by
          by_cases hjk : j = k
          · subst hjk
            rw [HSS.out, Option.getD_some]
            unfold blkOk
            rw [hsz]
            rfl
          · exact HOK.out j (by omega))
        clear hsz
        go_wp2_with fail
        go_roundw
        case rel => exact ⟨k + 1, by omega, by go_num, hok, by trivial⟩
        case measure => simp [intOf]; omega
      · have hszB : ((s.size : Int) != 2048) = true := by rw [bne_iff_ne]; omega
        have HBAD : Hid (bl.all blkOk = false) := Lib.hid (by
          rw [List.all_eq_false]
          refine ⟨s, List.mem_of_getElem? HSS.out, ?_⟩
          unfold blkOk
          rw [decide_eq_false hsz]
          decide)
        clear hsz
        go_wp2_with fail
        have HE := Lib.hid (apX_bad st ba l HBAD.out)
        have qr := (((HRZ.out.set_ 0 (.int .i64 st)).set_ 1 (.int .i64 ba)).set_ 2 (.slice Al m cl)).cell
        refine bodyPost_ret (v := .tuple #[rwV st ba Al m cl, .slice none 0 0, .int .i64 1]) (by simp [rwV, results, Try.results46, go_sem, qr]) rfl ?_
        rw [HE.out.1, HE.out.2.1, HE.out.2.2]
        have hbz := below_set3 HB0.out (g := w.heap.size + 1) (by omega) (.int .i64 st) (.int .i64 ba) (.slice Al m cl)
        exact ⟨hbz, Al, cl, none, 0, by rw [HM.out]; rfl, .inl ⟨rfl, rfl, rfl⟩, World.ownsRow_nil _ _ _ _⟩
    · obtain rfl : k = n := by omega
      have hge : ¬ (k : Int) < (k : Int) := by omega
      have HALL : Hid (bl.all blkOk = true) := Lib.hid (by
        rw [List.all_eq_true]
        intro s hs
        obtain ⟨i, hi, rfl⟩ := List.mem_iff_getElem.1 hs
        have := HOK.out i (by rw [← HN.out]; exact hi)
        rw [List.getElem?_eq_getElem hi] at this
        exact this)
      have C1 := Lib.hid (CA.out wr HB0.out)
      clear CA HOK
      go_wp2_with fail
      refine C1.out.mono ?_
      rintro e w2 ⟨hb2, hres⟩
      have HB2 := Lib.hid (HB0.out.trans (hb2.mono HB0.out.size))
      have HRB2 := Lib.hid (HRB.out.below hb2 hg0)
      have HRZ2 := Lib.hid (HRZ.out.below hb2 hg1)
      have hgb := HRB2.out.lt
      have hgz := HRZ2.out.lt
      have hw2 := hb2.size
      clear qb qz fz HRB HRZ HB0 C1
      rcases hres with ⟨hR, rfl⟩ | ⟨out, Ao, co, hR, rfl, ho⟩
      · have HE := Lib.hid (apX_full HALL.out (by rw [HN.out]; exact hR))
        have qb := HRB2.out.cell
        have qz := HRZ2.out.cell
        have fz := HRZ2.out.frozen
        clear hb2 hR
        go_wp2_with fail
        have qr := (((HRZ2.out.set_ 0 (.int .i64 st)).set_ 1 (.int .i64 ba)).set_ 2 (.slice Al m cl)).cell
        refine bodyPost_ret (v := .tuple #[rwV st ba Al m cl, .slice none 0 0, .int .i64 12]) (by simp [rwV, results, Try.results46, go_sem, qr]) rfl ?_
        rw [HE.out.1, HE.out.2.1, HE.out.2.2]
        have hbz := below_set3 HB2.out (g := w.heap.size + 1) (by omega) (.int .i64 st) (.int .i64 ba) (.slice Al m cl)
        exact ⟨hbz, Al, cl, none, 0, by rw [HM.out]; rfl, .inl ⟨rfl, rfl, rfl⟩, World.ownsRow_nil _ _ _ _⟩
      · have HE := Lib.hid (apX_ok HALL.out (by rw [HN.out]; exact hR))
        have HON : Hid (out.length = k) := Lib.hid (asgL_spec hR).1
        rw [HON.out] at ho ⊢
        have HOI := Lib.hid ho
        have HPD : Hid (∀ w', Below w2.heap.size w2 w' → SlAt w' w.heap.size Al (flat encP l)) := Lib.hid (fun w' hb => HP.out.below (HB2.out.trans (hb.mono HB2.out.size)))
        have HSB : Hid (∀ w', Below w2.heap.size w2 w' → SlAt w' w.heap.size A (strV bl)) := Lib.hid (fun w' hb => HS.out.below (HB2.out.trans (hb.mono HB2.out.size)))
        have HLN : Hid ((flat encP l).length = m * 2) := Lib.hid (by rw [flat_length encP_length, HM.out])
        clear hb2 hR ho HALL
        go_upto_region 9 with fail
        go_cut [10] from 36 to 44 (fun x wx => ∃ go A7 c7, x = .pointer (some ⟨go, 0, none⟩) ∧ RowAt wx go 76 #[.int .i64 st, .int .i64 ba, .slice A7 m c7] ∧ wx.ownsRow w2.heap.size 121 2 (.slice A7 m c7) m (flat encP l) ∧ Below w2.heap.size w2 wx ∧ w2.heap.size ≤ go)
        case first =>
          refine wp_region_held_drew (S := (fun w' => Below w2.heap.size w2 w')) (by kernel_rfl) ((Below.refl _ _).drew) (fun hHeld => ?_)
          generalize w2.drew = wd at *
          refine wpAnyH_take (i := 0) (oi := ?o1) (v := ?v1) ?hi1 (by kernel_rfl) (by kernel_rfl) (by kernel_rfl) ?hq1 ?hy1 (by assumption) ?hr1
          case hi1 => (simp only [List.getElem?_toArray, List.getElem?_cons_zero]; rfl)
          case hy1 => ((refine .inl ⟨by rfl, ?_⟩); intro w hS; go_simp; (try with_reducible rfl))
          case hq1 => exact fun _ _ _ h => h
          (simp only [Act.put, List.setIfInBounds_toArray, List.set_cons_zero, List.set_cons_succ])
          refine wpAnyH_take (i := 1) (oi := ?o2) (v := ?v2) ?hi2 (by kernel_rfl) (by kernel_rfl) (by kernel_rfl) ?hq2 ?hy2 (by assumption) ?hr2
          case hi2 => (simp only [List.getElem?_toArray, List.getElem?_cons_succ, List.getElem?_cons_zero]; rfl)
          case hy2 => ((refine .inl ⟨by rfl, ?_⟩); intro w hS; have q := (HRB2.out.below hS hgb).cell; go_simp; (try with_reducible rfl))
          case hq2 => exact fun _ _ _ h => h
          (simp only [Act.put, List.setIfInBounds_toArray, List.set_cons_zero, List.set_cons_succ])
          refine wpAnyH_take (i := 2) (oi := ?o3) (v := ?v3) ?hi3 (by kernel_rfl) (by kernel_rfl) (by kernel_rfl) ?hq3 ?hy3 (by assumption) ?hr3
          case hi3 => (simp only [List.getElem?_toArray, List.getElem?_cons_succ, List.getElem?_cons_zero]; rfl)
          case hy3 => ((refine .inl ⟨by rfl, ?_⟩); intro w hS; go_simp; (try with_reducible rfl))
          case hq3 => exact fun _ _ _ h => h
          (simp only [Act.put, List.setIfInBounds_toArray, List.set_cons_zero, List.set_cons_succ])
          refine wpAnyH_take (i := 3) (oi := ?o4) (v := ?v4) ?hi4 (by kernel_rfl) (by kernel_rfl) (by kernel_rfl) ?hq4 ?hy4 (by assumption) ?hr4
          case hi4 => (simp only [List.getElem?_toArray, List.getElem?_cons_succ, List.getElem?_cons_zero]; rfl)
          case hy4 => ((refine .inl ⟨by rfl, ?_⟩); intro w hS; have q := (HRB2.out.below hS hgb).cell; go_simp; (try with_reducible rfl))
          case hq4 => exact fun _ _ _ h => h
          (simp only [Act.put, List.setIfInBounds_toArray, List.set_cons_zero, List.set_cons_succ])
          refine wpAnyH_take (i := 5) (oi := ?o5) (v := ?v5) ?hi5 (by kernel_rfl) (by kernel_rfl) (by kernel_rfl) ?hq5 ?hy5 (by assumption) ?hr5
          case hi5 => (simp only [List.getElem?_toArray, List.getElem?_cons_succ, List.getElem?_cons_zero]; rfl)
          case hy5 => ((refine .inl ⟨by rfl, ?_⟩); intro w hS; go_simp; (try with_reducible rfl))
          case hq5 => exact fun _ _ _ h => h
          (simp only [Act.put, List.setIfInBounds_toArray, List.set_cons_zero, List.set_cons_succ])
          refine wpAnyH_take (i := 6) (oi := ?o6) (v := ?v6) ?hi6 (by kernel_rfl) (by kernel_rfl) (by kernel_rfl) ?hq6 ?hy6 (by assumption) ?hr6
          case hi6 => (simp only [List.getElem?_toArray, List.getElem?_cons_succ, List.getElem?_cons_zero]; rfl)
          case hy6 => ((refine .inl ⟨by rfl, ?_⟩); intro w hS; have q := (HRB2.out.below hS hgb).cell; go_simp; (try with_reducible rfl))
          case hq6 => exact fun _ _ _ h => h
          (simp only [Act.put, List.setIfInBounds_toArray, List.set_cons_zero, List.set_cons_succ])
          refine wpAnyH_ready (rs := [4, 9]) (by kernel_rfl) (by simp) ?_
          refine AllReadyH.cons rfl (fun K hK => ?_) (AllReadyH.cons rfl (fun K hK => ?_) AllReadyH.nil)
          · skip
            go_simp
            refine hK.out _ _ (hHeld.alloc hHeld.size _) (fun hHeld1 => ?_)
            clear hK K
            (try simp only [Act.put, List.setIfInBounds_toArray, List.set_cons_zero, List.set_cons_succ])
            have HO := Lib.hid (World.ownsRow_lit (base := w2.heap.size) (e := 121) (size := 2) wd #[] 0 hHeld.size (by decide) rfl)
            clear hHeld; have hHeld := hHeld1; clear hHeld1
            obtain ⟨g4, hg4⟩ : ∃ g4, wd.heap.size = g4 := ⟨_, rfl⟩
            rw [hg4] at HO ⊢
            generalize wd.alloc (.cells #[] 121) = w4 at *
            clear hg4
            refine wpAnyH_ready (rs := [7, 9]) (by kernel_rfl) (by simp) ?_
            refine AllReadyH.cons rfl (fun K hK => ?_) (AllReadyH.cons rfl (fun K hK => ?_) AllReadyH.nil)
            · skip
              refine step_appX HO.out info_rpend Try.underlying74 rfl (by decide) (m := m) HLN.out (HPD.out _ hHeld) encP_one (by unfold maxLen; omega) (by omega) hHeld.size rfl rfl (by rfl) (by rfl) ?_; intro v7 w7 hown7 hg7 hbl7; rw [List.nil_append, Nat.zero_add] at hown7; obtain ⟨A7, c7, hv7⟩ := own_slice hown7; subst hv7
              refine hK.out _ _ (hHeld.grown hg7 hHeld.size (fun k hk => (HO.out.lt k hk).1)) (fun hHeld1 => ?_)
              clear hK K
              (try simp only [Act.put, List.setIfInBounds_toArray])
              have HO7 := Lib.hid hown7
              clear HO
              have HO := HO7
              clear HO7 hown7 hg7
              clear hHeld; have hHeld := hHeld1; clear hHeld1
              refine wpAnyH_take (i := 8) (oi := ?o7) (v := ?v7) ?hi7 (by kernel_rfl) (by kernel_rfl) (by kernel_rfl) ?hq7 ?hy7 (by assumption) ?hr7
              case hi7 => (simp only [List.getElem?_toArray, List.getElem?_cons_succ, List.getElem?_cons_zero]; rfl)
              case hy7 => ((refine .inl ⟨by rfl, ?_⟩); intro w hS; go_simp; (try with_reducible rfl))
              case hq7 => exact fun _ _ _ h => h
              (simp only [Act.put])
              refine wpAnyH_ready (rs := [9]) (by kernel_rfl) (by simp) ?_
              refine AllReadyH.cons rfl (fun K hK => ?_) AllReadyH.nil
              go_simp
              refine hK.out _ _ (hHeld.alloc hHeld.size _) (fun hHeld1 => ?_)
              clear hK K
              (try simp only [Act.put, List.setIfInBounds_toArray, List.set_cons_zero, List.set_cons_succ])
              have HG := Lib.hid (RowAt.new w7 76 #[.int .i64 0, .int .i64 0, .slice none 0 0])
              have hgo2 := hHeld.size
              have HO9 := Lib.hid (HO.out.alloc (.cells #[.int .i64 0, .int .i64 0, .slice none 0 0] 76))
              clear HO
              have HO := HO9
              clear HO9
              clear hHeld; have hHeld := hHeld1; clear hHeld1
              obtain ⟨go, hgo⟩ : ∃ go, w7.heap.size = go := ⟨_, rfl⟩
              rw [hgo] at HG hgo2 ⊢
              generalize w7.alloc (.cells #[.int .i64 0, .int .i64 0, .slice none 0 0] 76) = w9 at *
              clear hgo
              have q := HG.out.cell
              have f := HG.out.frozen
              refine wpAnyH_ready (rs := [10]) (by kernel_rfl) (by simp) ?_
              refine AllReadyH.cons rfl (fun K hK => ?_) AllReadyH.nil
              go_simp
              refine hK.out _ _ (below_set3 hHeld hgo2 _ _ _) (fun hHeld1 => ?_)
              clear hK K
              (try simp only [Act.put, List.setIfInBounds_toArray, List.set_cons_zero, List.set_cons_succ])
              clear hHeld; have hHeld := hHeld1; clear hHeld1
              refine wpAnyH_done (by kernel_rfl) ?_ _
              have r1 := HG.out.set_ 0 (.int .i64 st)
              have r2 := r1.set_ 1 (.int .i64 ba)
              have r3 := r2.set_ 2 (.slice A7 m c7)
              have o1 := own_set_ty (j := 0) (u := .int .i64 st) HO.out HG.out (by decide)
              have o2 := own_set_ty (j := 1) (u := .int .i64 ba) o1 r1 (by decide)
              have o3 := own_set_ty (j := 2) (u := .slice A7 m c7) o2 r2 (by decide)
              clear q f
              go_wp2_with fail
              go_meet
              exact ⟨go, A7, c7, rfl, r3, o3, hHeld, hgo2⟩
            · skip
              go_simp
              refine hK.out _ _ (hHeld.alloc hHeld.size _) (fun hHeld1 => ?_)
              clear hK K
              (try simp only [Act.put, List.setIfInBounds_toArray, List.set_cons_zero, List.set_cons_succ])
              have HG := Lib.hid (RowAt.new w4 76 #[.int .i64 0, .int .i64 0, .slice none 0 0])
              have hgo2 := hHeld.size
              have HO9 := Lib.hid (HO.out.alloc (.cells #[.int .i64 0, .int .i64 0, .slice none 0 0] 76))
              clear HO
              have HO := HO9
              clear HO9
              clear hHeld; have hHeld := hHeld1; clear hHeld1
              obtain ⟨go, hgo⟩ : ∃ go, w4.heap.size = go := ⟨_, rfl⟩
              rw [hgo] at HG hgo2 ⊢
              generalize w4.alloc (.cells #[.int .i64 0, .int .i64 0, .slice none 0 0] 76) = w9 at *
              clear hgo
              refine wpAnyH_ready (rs := [7]) (by kernel_rfl) (by simp) ?_
              refine AllReadyH.cons rfl (fun K hK => ?_) AllReadyH.nil
              refine step_appX HO.out info_rpend Try.underlying74 rfl (by decide) (m := m) HLN.out (HPD.out _ hHeld) encP_one (by unfold maxLen; omega) (by omega) hHeld.size rfl rfl (by rfl) (by rfl) ?_; intro v7 w7 hown7 hg7 hbl7; rw [List.nil_append, Nat.zero_add] at hown7; obtain ⟨A7, c7, hv7⟩ := own_slice hown7; subst hv7
              refine hK.out _ _ (hHeld.grown hg7 hHeld.size (fun k hk => (HO.out.lt k hk).1)) (fun hHeld1 => ?_)
              clear hK K
              (try simp only [Act.put, List.setIfInBounds_toArray])
              have HO7 := Lib.hid hown7
              have HG7 := Lib.hid (HG.out.grown hg7 (fun e => own_row_ne HO.out HG.out (by decide) go e.symm rfl))
              clear HG
              have HG := HG7
              clear HG7
              have q := HG.out.cell
              have f := HG.out.frozen
              clear HO
              have HO := HO7
              clear HO7 hown7 hg7
              clear hHeld; have hHeld := hHeld1; clear hHeld1
              refine wpAnyH_take (i := 8) (oi := ?o8) (v := ?v8) ?hi8 (by kernel_rfl) (by kernel_rfl) (by kernel_rfl) ?hq8 ?hy8 (by assumption) ?hr8
              case hi8 => (simp only [List.getElem?_toArray, List.getElem?_cons_succ, List.getElem?_cons_zero]; rfl)
              case hy8 => ((refine .inl ⟨by rfl, ?_⟩); intro w hS; go_simp; (try with_reducible rfl))
              case hq8 => exact fun _ _ _ h => h
              (simp only [Act.put])
              refine wpAnyH_ready (rs := [10]) (by kernel_rfl) (by simp) ?_
              refine AllReadyH.cons rfl (fun K hK => ?_) AllReadyH.nil
              go_simp
              refine hK.out _ _ (below_set3 hHeld hgo2 _ _ _) (fun hHeld1 => ?_)
              clear hK K
              (try simp only [Act.put, List.setIfInBounds_toArray, List.set_cons_zero, List.set_cons_succ])
              clear hHeld; have hHeld := hHeld1; clear hHeld1
              refine wpAnyH_done (by kernel_rfl) ?_ _
              have r1 := HG.out.set_ 0 (.int .i64 st)
              have r2 := r1.set_ 1 (.int .i64 ba)
              have r3 := r2.set_ 2 (.slice A7 m c7)
              have o1 := own_set_ty (j := 0) (u := .int .i64 st) HO.out HG.out (by decide)
              have o2 := own_set_ty (j := 1) (u := .int .i64 ba) o1 r1 (by decide)
              have o3 := own_set_ty (j := 2) (u := .slice A7 m c7) o2 r2 (by decide)
              clear q f
              go_wp2_with fail
              go_meet
              exact ⟨go, A7, c7, rfl, r3, o3, hHeld, hgo2⟩
          · skip
            go_simp
            refine hK.out _ _ (hHeld.alloc hHeld.size _) (fun hHeld1 => ?_)
            clear hK K
            (try simp only [Act.put, List.setIfInBounds_toArray, List.set_cons_zero, List.set_cons_succ])
            have HG := Lib.hid (RowAt.new wd 76 #[.int .i64 0, .int .i64 0, .slice none 0 0])
            have hgo2 := hHeld.size
            clear hHeld; have hHeld := hHeld1; clear hHeld1
            obtain ⟨go, hgo⟩ : ∃ go, wd.heap.size = go := ⟨_, rfl⟩
            rw [hgo] at HG hgo2 ⊢
            generalize wd.alloc (.cells #[.int .i64 0, .int .i64 0, .slice none 0 0] 76) = w9 at *
            clear hgo
            refine wpAnyH_ready (rs := [4]) (by kernel_rfl) (by simp) ?_
            refine AllReadyH.cons rfl (fun K hK => ?_) AllReadyH.nil
            go_simp
            refine hK.out _ _ (hHeld.alloc hHeld.size _) (fun hHeld1 => ?_)
            clear hK K
            (try simp only [Act.put, List.setIfInBounds_toArray, List.set_cons_zero, List.set_cons_succ])
            have HO := Lib.hid (World.ownsRow_lit (base := w2.heap.size) (e := 121) (size := 2) w9 #[] 0 hHeld.size (by decide) rfl)
            have HG4 := Lib.hid (HG.out.alloc (.cells #[] 121))
            clear HG
            have HG := HG4
            clear HG4
            clear hHeld; have hHeld := hHeld1; clear hHeld1
            obtain ⟨g4, hg4⟩ : ∃ g4, w9.heap.size = g4 := ⟨_, rfl⟩
            rw [hg4] at HO ⊢
            generalize w9.alloc (.cells #[] 121) = w4 at *
            clear hg4
            refine wpAnyH_ready (rs := [7]) (by kernel_rfl) (by simp) ?_
            refine AllReadyH.cons rfl (fun K hK => ?_) AllReadyH.nil
            refine step_appX HO.out info_rpend Try.underlying74 rfl (by decide) (m := m) HLN.out (HPD.out _ hHeld) encP_one (by unfold maxLen; omega) (by omega) hHeld.size rfl rfl (by rfl) (by rfl) ?_; intro v7 w7 hown7 hg7 hbl7; rw [List.nil_append, Nat.zero_add] at hown7; obtain ⟨A7, c7, hv7⟩ := own_slice hown7; subst hv7
            refine hK.out _ _ (hHeld.grown hg7 hHeld.size (fun k hk => (HO.out.lt k hk).1)) (fun hHeld1 => ?_)
            clear hK K
            (try simp only [Act.put, List.setIfInBounds_toArray])
            have HO7 := Lib.hid hown7
            have HG7 := Lib.hid (HG.out.grown hg7 (fun e => own_row_ne HO.out HG.out (by decide) go e.symm rfl))
            clear HG
            have HG := HG7
            clear HG7
            have q := HG.out.cell
            have f := HG.out.frozen
            clear HO
            have HO := HO7
            clear HO7 hown7 hg7
            clear hHeld; have hHeld := hHeld1; clear hHeld1
            refine wpAnyH_take (i := 8) (oi := ?o9) (v := ?v9) ?hi9 (by kernel_rfl) (by kernel_rfl) (by kernel_rfl) ?hq9 ?hy9 (by assumption) ?hr9
            case hi9 => (simp only [List.getElem?_toArray, List.getElem?_cons_succ, List.getElem?_cons_zero]; rfl)
            case hy9 => ((refine .inl ⟨by rfl, ?_⟩); intro w hS; go_simp; (try with_reducible rfl))
            case hq9 => exact fun _ _ _ h => h
            (simp only [Act.put])
            refine wpAnyH_ready (rs := [10]) (by kernel_rfl) (by simp) ?_
            refine AllReadyH.cons rfl (fun K hK => ?_) AllReadyH.nil
            go_simp
            refine hK.out _ _ (below_set3 hHeld hgo2 _ _ _) (fun hHeld1 => ?_)
            clear hK K
            (try simp only [Act.put, List.setIfInBounds_toArray, List.set_cons_zero, List.set_cons_succ])
            clear hHeld; have hHeld := hHeld1; clear hHeld1
            refine wpAnyH_done (by kernel_rfl) ?_ _
            have r1 := HG.out.set_ 0 (.int .i64 st)
            have r2 := r1.set_ 1 (.int .i64 ba)
            have r3 := r2.set_ 2 (.slice A7 m c7)
            have o1 := own_set_ty (j := 0) (u := .int .i64 st) HO.out HG.out (by decide)
            have o2 := own_set_ty (j := 1) (u := .int .i64 ba) o1 r1 (by decide)
            have o3 := own_set_ty (j := 2) (u := .slice A7 m c7) o2 r2 (by decide)
            clear q f
            go_wp2_with fail
            go_meet
            exact ⟨go, A7, c7, rfl, r3, o3, hHeld, hgo2⟩
        case rest =>
          obtain ⟨go, A7, c7, rfl, hrg, hpd, hb3, hgo⟩ := hcut
          go_wp2_with fail
          go_loopw [11] (fun i wr => ∃ (j : Nat) (A8 : Option Addr) (c8 L : Nat), Hid (L = m + j) ∧ j ≤ k ∧ i = .int .i64 j ∧ RowAt wr go 76 #[.int .i64 st, .int .i64 ba, .slice A8 L c8] ∧ wr.ownsRow w2.heap.size 121 2 (.slice A8 L c8) L (flat encP (moreP l out bl j)) ∧ Below w2.heap.size w2 wr) (fun i _ => k - (intOf i).toNat)
          case atStart => exact ⟨0, A7, c7, m, Lib.hid rfl, by omega, rfl, hrg, by simpa [moreP] using hpd, hb3⟩
          case round =>
            clear hrg hpd hb3
            obtain ⟨j, A8, c8, L, HL, hj, rfl, hrw, hpd, hbel⟩ := hrel
            have HRW := Lib.hid hrw
            have HPD2 := Lib.hid hpd
            have HBJ := Lib.hid hbel
            have hszr := hbel.size
            clear hrw hpd hbel
            by_cases hlt2 : j < k
            · obtain ⟨s, hs⟩ : ∃ s, bl[j]? = some s := ⟨bl[j]'(by rw [HN.out]; exact hlt2), List.getElem?_eq_getElem _⟩
              obtain ⟨a, ha⟩ : ∃ a, out[j]? = some a := ⟨out[j]'(by rw [HON.out]; exact hlt2), List.getElem?_eq_getElem _⟩
              obtain ⟨sb, so, hA, hsb⟩ := HS.out.strAddr (by rw [HN.out]; omega)
              subst hA
              obtain ⟨gi, cap, hv, _, hgl, _⟩ := own_form HOI.out (by omega)
              injection hv with hA _ hc
              subst hA hc
              have HBL : Hid (∀ w', Below w2.heap.size w2 w' → w'.cell? ⟨sb, so + j, none⟩ = some (.string s)) := Lib.hid (fun w' hb => SlAt.str (HSB.out w' hb) rfl hs)
              have HOJ : Hid (∀ w', Below w2.heap.size w2 w' → w'.cell? ⟨gi, j, none⟩ = some (.int .i64 a)) := Lib.hid (fun w' hb => by
                rw [(own_all HOI.out hb).cellAt j (by omega)]
                unfold intV
                rw [List.getElem?_map, ha]
                rfl)
              have hltI : (j : Int) < (k : Int) := by omega
              have h0j : (0 : Int) ≤ (j : Int) := by omega
              have HM2 := Lib.hid (moreP_succ l out bl j)
              rw [ha, hs, Option.getD_some, Option.getD_some] at HM2
              clear hs ha
              go_upto_region 13 with fail
              refine wp_region_any (by kernel_rfl) (wpAny_of_Z (S := fun w' => Below w2.heap.size w2 w' ∧ RowAt w' go 76 #[.int .i64 st, .int .i64 ba, .slice A8 L c8]) (z := 14) _ _ _ _ ?_)
              have hHeld : Below w2.heap.size w2 wr.drew ∧ RowAt wr.drew go 76 #[.int .i64 st, .int .i64 ba, .slice A8 L c8] := ⟨HBJ.out.drew, HRW.out⟩
              change wpAnyZ _ _ _ _ _ _ _ _ _ (World.drew _)
              refine wpAnyZ_take (i := 0) (oi := ?o501) (v := ?v501) ?hi501 (by kernel_rfl) (by kernel_rfl) (by kernel_rfl) (by kernel_rfl) ?hq501 ?hy501 (by assumption) ?hr501
              case hi501 => (simp only [List.getElem?_toArray, List.getElem?_cons_zero]; rfl)
              case hy501 => ((refine .inl ⟨by rfl, ?_⟩); intro w hS; go_simp; (try with_reducible rfl))
              case hq501 => exact fun _ _ _ h => h
              (try simp only [Act.put, List.setIfInBounds_toArray, List.set_cons_zero, List.set_cons_succ])
              refine wpAnyZ_take (i := 1) (oi := ?o502) (v := ?v502) ?hi502 (by kernel_rfl) (by kernel_rfl) (by kernel_rfl) (by kernel_rfl) ?hq502 ?hy502 (by assumption) ?hr502
              case hi502 => (simp only [List.getElem?_toArray, List.getElem?_cons_succ, List.getElem?_cons_zero]; rfl)
              case hy502 => ((refine .inl ⟨by rfl, ?_⟩); intro w hS; have q := hS.2.cell; go_simp; (try with_reducible rfl))
              case hq502 => exact fun _ _ _ h => h
              (try simp only [Act.put, List.setIfInBounds_toArray, List.set_cons_zero, List.set_cons_succ])
              refine wpAnyZ_take (i := 2) (oi := ?o503) (v := ?v503) ?hi503 (by kernel_rfl) (by kernel_rfl) (by kernel_rfl) (by kernel_rfl) ?hq503 ?hy503 (by assumption) ?hr503
              case hi503 => (simp only [List.getElem?_toArray, List.getElem?_cons_succ, List.getElem?_cons_zero]; rfl)
              case hy503 => ((refine .inl ⟨by rfl, ?_⟩); intro w hS; go_simp; (try with_reducible rfl))
              case hq503 => exact fun _ _ _ h => h
              (try simp only [Act.put, List.setIfInBounds_toArray, List.set_cons_zero, List.set_cons_succ])
              refine wpAnyZ_take (i := 3) (oi := ?o504) (v := ?v504) ?hi504 (by kernel_rfl) (by kernel_rfl) (by kernel_rfl) (by kernel_rfl) ?hq504 ?hy504 (by assumption) ?hr504
              case hi504 => (simp only [List.getElem?_toArray, List.getElem?_cons_succ, List.getElem?_cons_zero]; rfl)
              case hy504 => ((refine .inl ⟨by rfl, ?_⟩); intro w hS; go_simp; (try with_reducible rfl))
              case hq504 => exact fun _ _ _ h => h
              (try simp only [Act.put, List.setIfInBounds_toArray, List.set_cons_zero, List.set_cons_succ])
              refine wpAnyZ_take (i := 4) (oi := ?o505) (v := ?v505) ?hi505 (by kernel_rfl) (by kernel_rfl) (by kernel_rfl) (by kernel_rfl) ?hq505 ?hy505 (by assumption) ?hr505
              case hi505 => (simp only [List.getElem?_toArray, List.getElem?_cons_succ, List.getElem?_cons_zero]; rfl)
              case hy505 => ((refine .inl ⟨by rfl, ?_⟩); intro w hS; go_simp; (try with_reducible rfl))
              case hq505 => exact fun _ _ _ h => h
              (try simp only [Act.put, List.setIfInBounds_toArray, List.set_cons_zero, List.set_cons_succ])
              refine wpAnyZ_take (i := 5) (oi := ?o506) (v := ?v506) ?hi506 (by kernel_rfl) (by kernel_rfl) (by kernel_rfl) (by kernel_rfl) ?hq506 ?hy506 (by assumption) ?hr506
              case hi506 => (simp only [List.getElem?_toArray, List.getElem?_cons_succ, List.getElem?_cons_zero]; rfl)
              case hy506 => ((refine .inl ⟨by rfl, ?_⟩); intro w hS; have q := HOJ.out _ hS.1; go_simp; (try with_reducible rfl))
              case hq506 => exact fun _ _ _ h => h
              (try simp only [Act.put, List.setIfInBounds_toArray, List.set_cons_zero, List.set_cons_succ])
              refine wpAnyZ_take (i := 6) (oi := ?o507) (v := ?v507) ?hi507 (by kernel_rfl) (by kernel_rfl) (by kernel_rfl) (by kernel_rfl) ?hq507 ?hy507 (by assumption) ?hr507
              case hi507 => (simp only [List.getElem?_toArray, List.getElem?_cons_succ, List.getElem?_cons_zero]; rfl)
              case hy507 => ((refine .inl ⟨by rfl, ?_⟩); intro w hS; go_simp; (try with_reducible rfl))
              case hq507 => exact fun _ _ _ h => h
              (try simp only [Act.put, List.setIfInBounds_toArray, List.set_cons_zero, List.set_cons_succ])
              refine wpAnyZ_take (i := 7) (oi := ?o508) (v := ?v508) ?hi508 (by kernel_rfl) (by kernel_rfl) (by kernel_rfl) (by kernel_rfl) ?hq508 ?hy508 (by assumption) ?hr508
              case hi508 => (simp only [List.getElem?_toArray, List.getElem?_cons_succ, List.getElem?_cons_zero]; rfl)
              case hy508 => ((refine .inl ⟨by rfl, ?_⟩); intro w hS; go_simp; (try with_reducible rfl))
              case hq508 => exact fun _ _ _ h => h
              (try simp only [Act.put, List.setIfInBounds_toArray, List.set_cons_zero, List.set_cons_succ])
              refine wpAnyZ_take (i := 8) (oi := ?o509) (v := ?v509) ?hi509 (by kernel_rfl) (by kernel_rfl) (by kernel_rfl) (by kernel_rfl) ?hq509 ?hy509 (by assumption) ?hr509
              case hi509 => (simp only [List.getElem?_toArray, List.getElem?_cons_succ, List.getElem?_cons_zero]; rfl)
              case hy509 => ((refine .inl ⟨by rfl, ?_⟩); intro w hS; go_simp; (try with_reducible rfl))
              case hq509 => exact fun _ _ _ h => h
              (try simp only [Act.put, List.setIfInBounds_toArray, List.set_cons_zero, List.set_cons_succ])
              refine wpAnyZ_take (i := 9) (oi := ?o510) (v := ?v510) ?hi510 (by kernel_rfl) (by kernel_rfl) (by kernel_rfl) (by kernel_rfl) ?hq510 ?hy510 (by assumption) ?hr510
              case hi510 => (simp only [List.getElem?_toArray, List.getElem?_cons_succ, List.getElem?_cons_zero]; rfl)
              case hy510 => ((refine .inl ⟨by rfl, ?_⟩); intro w hS; have q := HBL.out _ hS.1; go_simp; (try with_reducible rfl))
              case hq510 => exact fun _ _ _ h => h
              (try simp only [Act.put, List.setIfInBounds_toArray, List.set_cons_zero, List.set_cons_succ])
              refine wpAnyZ_take (i := 10) (oi := ?o511) (v := ?v511) ?hi511 (by kernel_rfl) (by kernel_rfl) (by kernel_rfl) (by kernel_rfl) ?hq511 ?hy511 (by assumption) ?hr511
              case hi511 => (simp only [List.getElem?_toArray, List.getElem?_cons_succ, List.getElem?_cons_zero]; rfl)
              case hy511 => ((refine .inl ⟨by rfl, ?_⟩); intro w hS; go_simp; (try with_reducible rfl))
              case hq511 => exact fun _ _ _ h => h
              (try simp only [Act.put, List.setIfInBounds_toArray, List.set_cons_zero, List.set_cons_succ])
              refine wpAnyZ_one (i := 11) (by kernel_rfl) rfl (by kernel_rfl) (fun K hK => ?_)
              go_simp
              refine hK.out _ _ (⟨hHeld.1.alloc hHeld.1.size _, hHeld.2.alloc _⟩) (fun hHeld => ?_)
              clear hK K
              (try simp only [Act.put, List.setIfInBounds_toArray, List.set_cons_zero, List.set_cons_succ])
              refine wpAnyZ_one (i := 12) (by kernel_rfl) rfl (by kernel_rfl) (fun K hK => ?_)
              refine step_appNA (w := wr.drew) HPD2.out.drew (H := wr.heap.size) rfl info_rpend Try.underlying74 rfl (by decide) (us := [.int .i64 a, .string s]) rfl (by unfold maxLen; have := HL.out; omega) (by have := HL.out; omega) hszr (by intro u hu; simp only [List.mem_cons, List.not_mem_nil, or_false] at hu; rcases hu with rfl | rfl <;> rfl) rfl rfl (by rfl) (by rfl) rfl ?_; intro v5 w5 hown5 hg5 hbl5; have hrw5 := (HRW.out.drewN 1).grown hg5 (fun e => own_row_ne HPD2.out HRW.out (by decide) go e.symm rfl); have hb5 := HBJ.out.drew.grown hg5 hszr (fun k hk => (HPD2.out.lt k hk).1); obtain ⟨A5, c5, hv5⟩ := own_slice hown5; subst hv5; have q5 := hrw5.cell; have f5 := hrw5.frozen
              refine hK.out _ _ (⟨hb5, hrw5⟩) (fun hHeld => ?_)
              clear hK K
              (try simp only [Act.put, List.setIfInBounds_toArray])
              refine wpAnyZ_one (i := 13) (by kernel_rfl) rfl (by kernel_rfl) (fun K hK => ?_)
              go_simp
              refine hK.out _ _ (hHeld) (fun hHeld => ?_)
              clear hK K
              (try simp only [Act.put, List.setIfInBounds_toArray, List.set_cons_zero, List.set_cons_succ])
              refine wpAnyZ_last (by kernel_rfl) rfl (fun K hK => ?_)
              go_simp
              refine hK.out _ _ ?_
              clear hK K
              (try simp only [Act.put])
              refine wpAnyZ_done (by kernel_rfl) ?_ _
              have hr2 : RowAt _ go 76 #[.int .i64 st, .int .i64 ba, .slice A5 (L + 1) c5] := hrw5.set_ 2 (.slice A5 (L + 1) c5)
              have hp2 := own_set_ty (j := 2) (u := .slice A5 (L + 1) c5) hown5 hrw5 (by decide)
              have hb6 := hb5.setCell (p := ⟨go, 2, none⟩) hgo (.slice A5 (L + 1) c5)
              rw [show flat encP (moreP l out bl j) ++ [.int .i64 a, .string s] = flat encP (moreP l out bl (j + 1)) by rw [HM2.out, flat_snoc]; rfl] at hp2
              go_wp2_with fail
              go_roundw
              case rel => exact ⟨j + 1, A5, c5, L + 1, Lib.hid (by have := HL.out; omega), by omega, by go_num, hr2, hp2, hb6⟩
              case measure => simp [intOf]; omega
            · obtain rfl : j = k := by omega
              have hge2 : ¬ (j : Int) < (j : Int) := by omega
              have qg := HRW.out.cell
              have hrz := HRZ2.out.below HBJ.out hgz
              have qz := hrz.cell
              have fz := hrz.frozen
              have hneq : go ≠ w.heap.size + 1 := by omega
              have hLL := HL.out
              subst hLL
              go_wp2_with fail
              have qr := (((hrz.set_ 0 (.int .i64 st)).set_ 1 (.int .i64 ba)).set_ 2 (.slice A8 (m + j) c8)).cell
              refine bodyPost_ret (v := .tuple #[rwV st ba A8 (m + j) c8, .slice Ao j co, .int .i64 0]) (by simp [rwV, results, Try.results46, go_sem, qr]) rfl ?_
              rw [HE.out.1, HE.out.2.1, HE.out.2.2]
              have hbz := below_set3 (HB2.out.trans (HBJ.out.mono HB2.out.size)) (g := w.heap.size + 1) (by omega) (.int .i64 st) (.int .i64 ba) (.slice A8 (m + j) c8)
              have o3 := own_set3 HPD2.out (g := w.heap.size + 1) hgz (.int .i64 st) (.int .i64 ba) (.slice A8 (m + j) c8)
              have i3 := own_set3 (own_all HOI.out HBJ.out) (g := w.heap.size + 1) hg1 (.int .i64 st) (.int .i64 ba) (.slice A8 (m + j) c8)
              exact ⟨hbz, A8, c8, Ao, co, by rw [moreP_length, HM.out, HON.out], by rw [HON.out]; exact .inr (by rw [moreP_length, HM.out]; exact own_le o3 HB2.out.size), by rw [HON.out]; exact own_le i3 (by first | omega | (simp; omega) | simp)⟩
end Go.Proofs.Ytdmdfpdigoijoaa

/-
  Chapter 52: Reserve and Fill of the reference.
-/
namespace Go.Proofs.Ytdmdfpdigoijoaa
open Go.RowKit
set_option linter.unusedVariables false

def rsL (st ba : Int) (l : List Pend) (n : Int) : List Pend := if n < 0 ∨ 1024 < n then l else (match asgL st ba l n.toNat with | some out => moreP l out [] out.length | none => l)
def rsO (st ba : Int) (l : List Pend) (n : Int) : List Int := if n < 0 ∨ 1024 < n then [] else (asgL st ba l n.toNat).getD []
def rsE (st ba : Int) (l : List Pend) (n : Int) : Int := if n < 0 ∨ 1024 < n then 2 else if asgL st ba l n.toNat = none then 12 else 0
section
variable {st ba : Int} {l : List Pend} {out : List Int} {k : Nat}
theorem rsX_bad (st ba : Int) (l : List Pend) {n : Int} (h : n < 0 ∨ 1024 < n) : rsL st ba l n = l ∧ rsO st ba l n = [] ∧ rsE st ba l n = 2 := by
  unfold rsL rsO rsE
  rw [if_pos h, if_pos h, if_pos h]
  exact ⟨rfl, rfl, rfl⟩
theorem rsX_full (h : k ≤ 1024) (hR : asgL st ba l k = none) : rsL st ba l k = l ∧ rsO st ba l k = [] ∧ rsE st ba l k = 12 := by
  unfold rsL rsO rsE
  rw [if_neg (by omega), if_neg (by omega), if_neg (by omega), Int.toNat_natCast, hR]
  exact ⟨rfl, rfl, rfl⟩
theorem rsX_ok (h : k ≤ 1024) (hR : asgL st ba l k = some out) : rsL st ba l k = moreP l out [] out.length ∧ rsO st ba l k = out ∧ rsE st ba l k = 0 := by
  unfold rsL rsO rsE
  rw [if_neg (by omega), if_neg (by omega), if_neg (by omega), Int.toNat_natCast, hR]
  exact ⟨rfl, rfl, rfl⟩
end
set_option maxRecDepth 100000 in
set_option maxHeartbeats 4000000 in
theorem rreserve_any (st ba : Int) (Al : Option Addr) (cl : Nat) (l : List Pend) (n : Int) (w : World) (h : PnAt w w.heap.size Al l) (hl : l.length ≤ 100000) (hst : 0 ≤ st) (h1 : st ≤ nextL ba l) (h2 : nextL ba l ≤ 4200) :
    Calls Try.prog 47 #[rwV st ba Al l.length cl, .int .i64 n] w (RWRes st ba Al cl l (rsL st ba l n) (rsO st ba l n) (rsE st ba l n) w) := by
  have CA := Lib.hid (fun (k : Nat) (hk : k ≤ 1024) w' (hb : Below w.heap.size w w') => rassign_any st ba Al cl l k w' ((h.below hb).mono hb.size) (by omega) (by omega) hst h1 h2)
  have HP := Lib.hid h
  obtain ⟨m, hm⟩ : ∃ m, l.length = m := ⟨_, rfl⟩
  have HM := Lib.hid hm
  rw [hm] at CA ⊢
  rw [hm] at hl
  unfold rwV RAsg at CA
  unfold rwV
  have HB0 := Lib.hid (((Below.refl w.heap.size w).alloc (Nat.le_refl _) (.cells #[.int .i64 st, .int .i64 ba, .slice Al m cl] 76)).alloc (by simp) (.cells #[.int .i64 0, .int .i64 0, .slice none 0 0] 76))
  have HRB := Lib.hid ((RowAt.new w 76 #[.int .i64 st, .int .i64 ba, .slice Al m cl]).alloc (.cells #[.int .i64 0, .int .i64 0, .slice none 0 0] 76))
  have HRZ := Lib.hid (RowAt.new (w.alloc (.cells #[.int .i64 st, .int .i64 ba, .slice Al m cl] 76)) 76 #[.int .i64 0, .int .i64 0, .slice none 0 0])
  have hgz : (w.alloc (.cells #[.int .i64 st, .int .i64 ba, .slice Al m cl] 76)).heap.size = w.heap.size + 1 := by simp
  rw [hgz] at HRZ
  clear h hm hgz
  go_enter Try.func47, Try.ntmps47
  go_upto_region 1 with fail
  generalize (w.alloc (.cells #[.int .i64 st, .int .i64 ba, .slice Al m cl] 76)).alloc (.cells #[.int .i64 0, .int .i64 0, .slice none 0 0] 76) = w1 at *
  have qb := HRB.out.cell
  have qz := HRZ.out.cell
  have fz := HRZ.out.frozen
  have hg0 := HRB.out.lt
  have hg1 := HRZ.out.lt
  by_cases hbad : n < 0 ∨ 1024 < n
  · have HE := Lib.hid (rsX_bad st ba l hbad)
    have h' : n < 0 ∨ (¬ n < 0 ∧ 1024 < n) := by omega
    clear hbad
    rcases h' with hn | ⟨hn, hn2⟩
    all_goals
      go_wp2_with fail
      have qr := (((HRZ.out.set_ 0 (.int .i64 st)).set_ 1 (.int .i64 ba)).set_ 2 (.slice Al m cl)).cell
      refine bodyPost_ret (v := .tuple #[rwV st ba Al m cl, .slice none 0 0, .int .i64 2]) (by simp [rwV, results, Try.results47, go_sem, qr]) rfl ?_
      rw [HE.out.1, HE.out.2.1, HE.out.2.2]
      have hbz := below_set3 HB0.out (g := w.heap.size + 1) (by omega) (.int .i64 st) (.int .i64 ba) (.slice Al m cl)
      exact ⟨hbz, Al, cl, none, 0, by rw [HM.out]; rfl, .inl ⟨rfl, rfl, rfl⟩, World.ownsRow_nil _ _ _ _⟩
  · obtain ⟨k, rfl⟩ : ∃ k : Nat, n = (k : Int) := ⟨n.toNat, by omega⟩
    have hk : k ≤ 1024 := by omega
    have hn0 : ¬ (k : Int) < 0 := by omega
    have hn1 : ¬ (1024 : Int) < (k : Int) := by omega
    clear hbad
    have C1 := Lib.hid (CA.out k hk w1 HB0.out)
    clear CA
    go_wp2_with fail
    refine C1.out.mono ?_
    rintro e w2 ⟨hb2, hres⟩
    have HB2 := Lib.hid (HB0.out.trans (hb2.mono HB0.out.size))
    have HRB2 := Lib.hid (HRB.out.below hb2 hg0)
    have HRZ2 := Lib.hid (HRZ.out.below hb2 hg1)
    have hgb := HRB2.out.lt
    have hgz := HRZ2.out.lt
    have hw2 := hb2.size
    clear qb qz fz HRB HRZ HB0 C1
    rcases hres with ⟨hR, rfl⟩ | ⟨out, Ao, co, hR, rfl, ho⟩
    · have HE := Lib.hid (rsX_full hk hR)
      have qb := HRB2.out.cell
      have qz := HRZ2.out.cell
      have fz := HRZ2.out.frozen
      clear hb2 hR
      go_wp2_with fail
      have qr := (((HRZ2.out.set_ 0 (.int .i64 st)).set_ 1 (.int .i64 ba)).set_ 2 (.slice Al m cl)).cell
      refine bodyPost_ret (v := .tuple #[rwV st ba Al m cl, .slice none 0 0, .int .i64 12]) (by simp [rwV, results, Try.results47, go_sem, qr]) rfl ?_
      rw [HE.out.1, HE.out.2.1, HE.out.2.2]
      have hbz := below_set3 HB2.out (g := w.heap.size + 1) (by omega) (.int .i64 st) (.int .i64 ba) (.slice Al m cl)
      exact ⟨hbz, Al, cl, none, 0, by rw [HM.out]; rfl, .inl ⟨rfl, rfl, rfl⟩, World.ownsRow_nil _ _ _ _⟩
    · have HE := Lib.hid (rsX_ok hk hR)
      have HON : Hid (out.length = k) := Lib.hid (asgL_spec hR).1
      rw [HON.out] at ho ⊢
      have HOI := Lib.hid ho
      have HPD : Hid (∀ w', Below w2.heap.size w2 w' → SlAt w' w.heap.size Al (flat encP l)) := Lib.hid (fun w' hb => HP.out.below (HB2.out.trans (hb.mono HB2.out.size)))
      have HLN : Hid ((flat encP l).length = m * 2) := Lib.hid (by rw [flat_length encP_length, HM.out])
      clear hb2 hR ho
      go_upto_region 6 with fail
      go_cut [9] from 28 to 36 (fun x wx => ∃ go A7 c7, x = .pointer (some ⟨go, 0, none⟩) ∧ RowAt wx go 76 #[.int .i64 st, .int .i64 ba, .slice A7 m c7] ∧ wx.ownsRow w2.heap.size 121 2 (.slice A7 m c7) m (flat encP l) ∧ Below w2.heap.size w2 wx ∧ w2.heap.size ≤ go)
      case first =>
        refine wp_region_held_drew (S := (fun w' => Below w2.heap.size w2 w')) (by kernel_rfl) ((Below.refl _ _).drew) (fun hHeld => ?_)
        generalize w2.drew = wd at *
        refine wpAnyH_take (i := 0) (oi := ?o10) (v := ?v10) ?hi10 (by kernel_rfl) (by kernel_rfl) (by kernel_rfl) ?hq10 ?hy10 (by assumption) ?hr10
        case hi10 => (simp only [List.getElem?_toArray, List.getElem?_cons_zero]; rfl)
        case hy10 => ((refine .inl ⟨by rfl, ?_⟩); intro w hS; go_simp; (try with_reducible rfl))
        case hq10 => exact fun _ _ _ h => h
        (simp only [Act.put, List.setIfInBounds_toArray, List.set_cons_zero, List.set_cons_succ])
        refine wpAnyH_take (i := 1) (oi := ?o11) (v := ?v11) ?hi11 (by kernel_rfl) (by kernel_rfl) (by kernel_rfl) ?hq11 ?hy11 (by assumption) ?hr11
        case hi11 => (simp only [List.getElem?_toArray, List.getElem?_cons_succ, List.getElem?_cons_zero]; rfl)
        case hy11 => ((refine .inl ⟨by rfl, ?_⟩); intro w hS; have q := (HRB2.out.below hS hgb).cell; go_simp; (try with_reducible rfl))
        case hq11 => exact fun _ _ _ h => h
        (simp only [Act.put, List.setIfInBounds_toArray, List.set_cons_zero, List.set_cons_succ])
        refine wpAnyH_take (i := 2) (oi := ?o12) (v := ?v12) ?hi12 (by kernel_rfl) (by kernel_rfl) (by kernel_rfl) ?hq12 ?hy12 (by assumption) ?hr12
        case hi12 => (simp only [List.getElem?_toArray, List.getElem?_cons_succ, List.getElem?_cons_zero]; rfl)
        case hy12 => ((refine .inl ⟨by rfl, ?_⟩); intro w hS; go_simp; (try with_reducible rfl))
        case hq12 => exact fun _ _ _ h => h
        (simp only [Act.put, List.setIfInBounds_toArray, List.set_cons_zero, List.set_cons_succ])
        refine wpAnyH_take (i := 3) (oi := ?o13) (v := ?v13) ?hi13 (by kernel_rfl) (by kernel_rfl) (by kernel_rfl) ?hq13 ?hy13 (by assumption) ?hr13
        case hi13 => (simp only [List.getElem?_toArray, List.getElem?_cons_succ, List.getElem?_cons_zero]; rfl)
        case hy13 => ((refine .inl ⟨by rfl, ?_⟩); intro w hS; have q := (HRB2.out.below hS hgb).cell; go_simp; (try with_reducible rfl))
        case hq13 => exact fun _ _ _ h => h
        (simp only [Act.put, List.setIfInBounds_toArray, List.set_cons_zero, List.set_cons_succ])
        refine wpAnyH_take (i := 5) (oi := ?o14) (v := ?v14) ?hi14 (by kernel_rfl) (by kernel_rfl) (by kernel_rfl) ?hq14 ?hy14 (by assumption) ?hr14
        case hi14 => (simp only [List.getElem?_toArray, List.getElem?_cons_succ, List.getElem?_cons_zero]; rfl)
        case hy14 => ((refine .inl ⟨by rfl, ?_⟩); intro w hS; go_simp; (try with_reducible rfl))
        case hq14 => exact fun _ _ _ h => h
        (simp only [Act.put, List.setIfInBounds_toArray, List.set_cons_zero, List.set_cons_succ])
        refine wpAnyH_take (i := 6) (oi := ?o15) (v := ?v15) ?hi15 (by kernel_rfl) (by kernel_rfl) (by kernel_rfl) ?hq15 ?hy15 (by assumption) ?hr15
        case hi15 => (simp only [List.getElem?_toArray, List.getElem?_cons_succ, List.getElem?_cons_zero]; rfl)
        case hy15 => ((refine .inl ⟨by rfl, ?_⟩); intro w hS; have q := (HRB2.out.below hS hgb).cell; go_simp; (try with_reducible rfl))
        case hq15 => exact fun _ _ _ h => h
        (simp only [Act.put, List.setIfInBounds_toArray, List.set_cons_zero, List.set_cons_succ])
        refine wpAnyH_ready (rs := [4, 9]) (by kernel_rfl) (by simp) ?_
        refine AllReadyH.cons rfl (fun K hK => ?_) (AllReadyH.cons rfl (fun K hK => ?_) AllReadyH.nil)
        · skip
          go_simp
          refine hK.out _ _ (hHeld.alloc hHeld.size _) (fun hHeld1 => ?_)
          clear hK K
          (try simp only [Act.put, List.setIfInBounds_toArray, List.set_cons_zero, List.set_cons_succ])
          have HO := Lib.hid (World.ownsRow_lit (base := w2.heap.size) (e := 121) (size := 2) wd #[] 0 hHeld.size (by decide) rfl)
          clear hHeld; have hHeld := hHeld1; clear hHeld1
          obtain ⟨g4, hg4⟩ : ∃ g4, wd.heap.size = g4 := ⟨_, rfl⟩
          rw [hg4] at HO ⊢
          generalize wd.alloc (.cells #[] 121) = w4 at *
          clear hg4
          refine wpAnyH_ready (rs := [7, 9]) (by kernel_rfl) (by simp) ?_
          refine AllReadyH.cons rfl (fun K hK => ?_) (AllReadyH.cons rfl (fun K hK => ?_) AllReadyH.nil)
          · skip
            refine step_appX HO.out info_rpend Try.underlying74 rfl (by decide) (m := m) HLN.out (HPD.out _ hHeld) encP_one (by unfold maxLen; omega) (by omega) hHeld.size rfl rfl (by rfl) (by rfl) ?_; intro v7 w7 hown7 hg7 hbl7; rw [List.nil_append, Nat.zero_add] at hown7; obtain ⟨A7, c7, hv7⟩ := own_slice hown7; subst hv7
            refine hK.out _ _ (hHeld.grown hg7 hHeld.size (fun k hk => (HO.out.lt k hk).1)) (fun hHeld1 => ?_)
            clear hK K
            (try simp only [Act.put, List.setIfInBounds_toArray])
            have HO7 := Lib.hid hown7
            clear HO
            have HO := HO7
            clear HO7 hown7 hg7
            clear hHeld; have hHeld := hHeld1; clear hHeld1
            refine wpAnyH_take (i := 8) (oi := ?o16) (v := ?v16) ?hi16 (by kernel_rfl) (by kernel_rfl) (by kernel_rfl) ?hq16 ?hy16 (by assumption) ?hr16
            case hi16 => (simp only [List.getElem?_toArray, List.getElem?_cons_succ, List.getElem?_cons_zero]; rfl)
            case hy16 => ((refine .inl ⟨by rfl, ?_⟩); intro w hS; go_simp; (try with_reducible rfl))
            case hq16 => exact fun _ _ _ h => h
            (simp only [Act.put])
            refine wpAnyH_ready (rs := [9]) (by kernel_rfl) (by simp) ?_
            refine AllReadyH.cons rfl (fun K hK => ?_) AllReadyH.nil
            go_simp
            refine hK.out _ _ (hHeld.alloc hHeld.size _) (fun hHeld1 => ?_)
            clear hK K
            (try simp only [Act.put, List.setIfInBounds_toArray, List.set_cons_zero, List.set_cons_succ])
            have HG := Lib.hid (RowAt.new w7 76 #[.int .i64 0, .int .i64 0, .slice none 0 0])
            have hgo2 := hHeld.size
            have HO9 := Lib.hid (HO.out.alloc (.cells #[.int .i64 0, .int .i64 0, .slice none 0 0] 76))
            clear HO
            have HO := HO9
            clear HO9
            clear hHeld; have hHeld := hHeld1; clear hHeld1
            obtain ⟨go, hgo⟩ : ∃ go, w7.heap.size = go := ⟨_, rfl⟩
            rw [hgo] at HG hgo2 ⊢
            generalize w7.alloc (.cells #[.int .i64 0, .int .i64 0, .slice none 0 0] 76) = w9 at *
            clear hgo
            have q := HG.out.cell
            have f := HG.out.frozen
            refine wpAnyH_ready (rs := [10]) (by kernel_rfl) (by simp) ?_
            refine AllReadyH.cons rfl (fun K hK => ?_) AllReadyH.nil
            go_simp
            refine hK.out _ _ (below_set3 hHeld hgo2 _ _ _) (fun hHeld1 => ?_)
            clear hK K
            (try simp only [Act.put, List.setIfInBounds_toArray, List.set_cons_zero, List.set_cons_succ])
            clear hHeld; have hHeld := hHeld1; clear hHeld1
            refine wpAnyH_done (by kernel_rfl) ?_ _
            have r1 := HG.out.set_ 0 (.int .i64 st)
            have r2 := r1.set_ 1 (.int .i64 ba)
            have r3 := r2.set_ 2 (.slice A7 m c7)
            have o1 := own_set_ty (j := 0) (u := .int .i64 st) HO.out HG.out (by decide)
            have o2 := own_set_ty (j := 1) (u := .int .i64 ba) o1 r1 (by decide)
            have o3 := own_set_ty (j := 2) (u := .slice A7 m c7) o2 r2 (by decide)
            clear q f
            go_wp2_with fail
            go_meet
            exact ⟨go, A7, c7, rfl, r3, o3, hHeld, hgo2⟩
          · skip
            go_simp
            refine hK.out _ _ (hHeld.alloc hHeld.size _) (fun hHeld1 => ?_)
            clear hK K
            (try simp only [Act.put, List.setIfInBounds_toArray, List.set_cons_zero, List.set_cons_succ])
            have HG := Lib.hid (RowAt.new w4 76 #[.int .i64 0, .int .i64 0, .slice none 0 0])
            have hgo2 := hHeld.size
            have HO9 := Lib.hid (HO.out.alloc (.cells #[.int .i64 0, .int .i64 0, .slice none 0 0] 76))
            clear HO
            have HO := HO9
            clear HO9
            clear hHeld; have hHeld := hHeld1; clear hHeld1
            obtain ⟨go, hgo⟩ : ∃ go, w4.heap.size = go := ⟨_, rfl⟩
            rw [hgo] at HG hgo2 ⊢
            generalize w4.alloc (.cells #[.int .i64 0, .int .i64 0, .slice none 0 0] 76) = w9 at *
            clear hgo
            refine wpAnyH_ready (rs := [7]) (by kernel_rfl) (by simp) ?_
            refine AllReadyH.cons rfl (fun K hK => ?_) AllReadyH.nil
            refine step_appX HO.out info_rpend Try.underlying74 rfl (by decide) (m := m) HLN.out (HPD.out _ hHeld) encP_one (by unfold maxLen; omega) (by omega) hHeld.size rfl rfl (by rfl) (by rfl) ?_; intro v7 w7 hown7 hg7 hbl7; rw [List.nil_append, Nat.zero_add] at hown7; obtain ⟨A7, c7, hv7⟩ := own_slice hown7; subst hv7
            refine hK.out _ _ (hHeld.grown hg7 hHeld.size (fun k hk => (HO.out.lt k hk).1)) (fun hHeld1 => ?_)
            clear hK K
            (try simp only [Act.put, List.setIfInBounds_toArray])
            have HO7 := Lib.hid hown7
            have HG7 := Lib.hid (HG.out.grown hg7 (fun e => own_row_ne HO.out HG.out (by decide) go e.symm rfl))
            clear HG
            have HG := HG7
            clear HG7
            have q := HG.out.cell
            have f := HG.out.frozen
            clear HO
            have HO := HO7
            clear HO7 hown7 hg7
            clear hHeld; have hHeld := hHeld1; clear hHeld1
            refine wpAnyH_take (i := 8) (oi := ?o17) (v := ?v17) ?hi17 (by kernel_rfl) (by kernel_rfl) (by kernel_rfl) ?hq17 ?hy17 (by assumption) ?hr17
            case hi17 => (simp only [List.getElem?_toArray, List.getElem?_cons_succ, List.getElem?_cons_zero]; rfl)
            case hy17 => ((refine .inl ⟨by rfl, ?_⟩); intro w hS; go_simp; (try with_reducible rfl))
            case hq17 => exact fun _ _ _ h => h
            (simp only [Act.put])
            refine wpAnyH_ready (rs := [10]) (by kernel_rfl) (by simp) ?_
            refine AllReadyH.cons rfl (fun K hK => ?_) AllReadyH.nil
            go_simp
            refine hK.out _ _ (below_set3 hHeld hgo2 _ _ _) (fun hHeld1 => ?_)
            clear hK K
            (try simp only [Act.put, List.setIfInBounds_toArray, List.set_cons_zero, List.set_cons_succ])
            clear hHeld; have hHeld := hHeld1; clear hHeld1
            refine wpAnyH_done (by kernel_rfl) ?_ _
            have r1 := HG.out.set_ 0 (.int .i64 st)
            have r2 := r1.set_ 1 (.int .i64 ba)
            have r3 := r2.set_ 2 (.slice A7 m c7)
            have o1 := own_set_ty (j := 0) (u := .int .i64 st) HO.out HG.out (by decide)
            have o2 := own_set_ty (j := 1) (u := .int .i64 ba) o1 r1 (by decide)
            have o3 := own_set_ty (j := 2) (u := .slice A7 m c7) o2 r2 (by decide)
            clear q f
            go_wp2_with fail
            go_meet
            exact ⟨go, A7, c7, rfl, r3, o3, hHeld, hgo2⟩
        · skip
          go_simp
          refine hK.out _ _ (hHeld.alloc hHeld.size _) (fun hHeld1 => ?_)
          clear hK K
          (try simp only [Act.put, List.setIfInBounds_toArray, List.set_cons_zero, List.set_cons_succ])
          have HG := Lib.hid (RowAt.new wd 76 #[.int .i64 0, .int .i64 0, .slice none 0 0])
          have hgo2 := hHeld.size
          clear hHeld; have hHeld := hHeld1; clear hHeld1
          obtain ⟨go, hgo⟩ : ∃ go, wd.heap.size = go := ⟨_, rfl⟩
          rw [hgo] at HG hgo2 ⊢
          generalize wd.alloc (.cells #[.int .i64 0, .int .i64 0, .slice none 0 0] 76) = w9 at *
          clear hgo
          refine wpAnyH_ready (rs := [4]) (by kernel_rfl) (by simp) ?_
          refine AllReadyH.cons rfl (fun K hK => ?_) AllReadyH.nil
          go_simp
          refine hK.out _ _ (hHeld.alloc hHeld.size _) (fun hHeld1 => ?_)
          clear hK K
          (try simp only [Act.put, List.setIfInBounds_toArray, List.set_cons_zero, List.set_cons_succ])
          have HO := Lib.hid (World.ownsRow_lit (base := w2.heap.size) (e := 121) (size := 2) w9 #[] 0 hHeld.size (by decide) rfl)
          have HG4 := Lib.hid (HG.out.alloc (.cells #[] 121))
          clear HG
          have HG := HG4
          clear HG4
          clear hHeld; have hHeld := hHeld1; clear hHeld1
          obtain ⟨g4, hg4⟩ : ∃ g4, w9.heap.size = g4 := ⟨_, rfl⟩
          rw [hg4] at HO ⊢
          generalize w9.alloc (.cells #[] 121) = w4 at *
          clear hg4
          refine wpAnyH_ready (rs := [7]) (by kernel_rfl) (by simp) ?_
          refine AllReadyH.cons rfl (fun K hK => ?_) AllReadyH.nil
          refine step_appX HO.out info_rpend Try.underlying74 rfl (by decide) (m := m) HLN.out (HPD.out _ hHeld) encP_one (by unfold maxLen; omega) (by omega) hHeld.size rfl rfl (by rfl) (by rfl) ?_; intro v7 w7 hown7 hg7 hbl7; rw [List.nil_append, Nat.zero_add] at hown7; obtain ⟨A7, c7, hv7⟩ := own_slice hown7; subst hv7
          refine hK.out _ _ (hHeld.grown hg7 hHeld.size (fun k hk => (HO.out.lt k hk).1)) (fun hHeld1 => ?_)
          clear hK K
          (try simp only [Act.put, List.setIfInBounds_toArray])
          have HO7 := Lib.hid hown7
          have HG7 := Lib.hid (HG.out.grown hg7 (fun e => own_row_ne HO.out HG.out (by decide) go e.symm rfl))
          clear HG
          have HG := HG7
          clear HG7
          have q := HG.out.cell
          have f := HG.out.frozen
          clear HO
          have HO := HO7
          clear HO7 hown7 hg7
          clear hHeld; have hHeld := hHeld1; clear hHeld1
          refine wpAnyH_take (i := 8) (oi := ?o18) (v := ?v18) ?hi18 (by kernel_rfl) (by kernel_rfl) (by kernel_rfl) ?hq18 ?hy18 (by assumption) ?hr18
          case hi18 => (simp only [List.getElem?_toArray, List.getElem?_cons_succ, List.getElem?_cons_zero]; rfl)
          case hy18 => ((refine .inl ⟨by rfl, ?_⟩); intro w hS; go_simp; (try with_reducible rfl))
          case hq18 => exact fun _ _ _ h => h
          (simp only [Act.put])
          refine wpAnyH_ready (rs := [10]) (by kernel_rfl) (by simp) ?_
          refine AllReadyH.cons rfl (fun K hK => ?_) AllReadyH.nil
          go_simp
          refine hK.out _ _ (below_set3 hHeld hgo2 _ _ _) (fun hHeld1 => ?_)
          clear hK K
          (try simp only [Act.put, List.setIfInBounds_toArray, List.set_cons_zero, List.set_cons_succ])
          clear hHeld; have hHeld := hHeld1; clear hHeld1
          refine wpAnyH_done (by kernel_rfl) ?_ _
          have r1 := HG.out.set_ 0 (.int .i64 st)
          have r2 := r1.set_ 1 (.int .i64 ba)
          have r3 := r2.set_ 2 (.slice A7 m c7)
          have o1 := own_set_ty (j := 0) (u := .int .i64 st) HO.out HG.out (by decide)
          have o2 := own_set_ty (j := 1) (u := .int .i64 ba) o1 r1 (by decide)
          have o3 := own_set_ty (j := 2) (u := .slice A7 m c7) o2 r2 (by decide)
          clear q f
          go_wp2_with fail
          go_meet
          exact ⟨go, A7, c7, rfl, r3, o3, hHeld, hgo2⟩
      case rest =>
        obtain ⟨go, A7, c7, rfl, hrg, hpd, hb3, hgo⟩ := hcut
        go_wp2_with fail
        go_loopw [10] (fun i wr => ∃ (j : Nat) (A8 : Option Addr) (c8 L : Nat), Hid (L = m + j) ∧ j ≤ k ∧ i = .int .i64 j ∧ RowAt wr go 76 #[.int .i64 st, .int .i64 ba, .slice A8 L c8] ∧ wr.ownsRow w2.heap.size 121 2 (.slice A8 L c8) L (flat encP (moreP l out [] j)) ∧ Below w2.heap.size w2 wr) (fun i _ => k - (intOf i).toNat)
        case atStart => exact ⟨0, A7, c7, m, Lib.hid rfl, by omega, rfl, hrg, by simpa [moreP] using hpd, hb3⟩
        case round =>
          clear hrg hpd hb3
          obtain ⟨j, A8, c8, L, HL, hj, rfl, hrw, hpd, hbel⟩ := hrel
          have HRW := Lib.hid hrw
          have HPD2 := Lib.hid hpd
          have HBJ := Lib.hid hbel
          have hszr := hbel.size
          clear hrw hpd hbel
          by_cases hlt2 : j < k
          · obtain ⟨a, ha⟩ : ∃ a, out[j]? = some a := ⟨out[j]'(by rw [HON.out]; exact hlt2), List.getElem?_eq_getElem _⟩
            obtain ⟨gi, cap, hv, _, hgl, _⟩ := own_form HOI.out (by omega)
            injection hv with hA _ hc
            subst hA hc
            have HOJ : Hid (∀ w', Below w2.heap.size w2 w' → w'.cell? ⟨gi, j, none⟩ = some (.int .i64 a)) := Lib.hid (fun w' hb => by
              rw [(own_all HOI.out hb).cellAt j (by omega)]
              unfold intV
              rw [List.getElem?_map, ha]
              rfl)
            have hltI : (j : Int) < (k : Int) := by omega
            have h0j : (0 : Int) ≤ (j : Int) := by omega
            have HM2 := Lib.hid (moreP_succ l out [] j)
            rw [ha, Option.getD_some, show ([] : List ByteArray)[j]?.getD blankS = blankS from rfl] at HM2
            clear ha
            go_upto_region 10 with fail
            refine wp_region_any (by kernel_rfl) (wpAny_of_Z (S := fun w' => Below w2.heap.size w2 w' ∧ RowAt w' go 76 #[.int .i64 st, .int .i64 ba, .slice A8 L c8]) (z := 10) _ _ _ _ ?_)
            have hHeld : Below w2.heap.size w2 wr.drew ∧ RowAt wr.drew go 76 #[.int .i64 st, .int .i64 ba, .slice A8 L c8] := ⟨HBJ.out.drew, HRW.out⟩
            change wpAnyZ _ _ _ _ _ _ _ _ _ (World.drew _)
            refine wpAnyZ_take (i := 0) (oi := ?o512) (v := ?v512) ?hi512 (by kernel_rfl) (by kernel_rfl) (by kernel_rfl) (by kernel_rfl) ?hq512 ?hy512 (by assumption) ?hr512
            case hi512 => (simp only [List.getElem?_toArray, List.getElem?_cons_zero]; rfl)
            case hy512 => ((refine .inl ⟨by rfl, ?_⟩); intro w hS; go_simp; (try with_reducible rfl))
            case hq512 => exact fun _ _ _ h => h
            (try simp only [Act.put, List.setIfInBounds_toArray, List.set_cons_zero, List.set_cons_succ])
            refine wpAnyZ_take (i := 1) (oi := ?o513) (v := ?v513) ?hi513 (by kernel_rfl) (by kernel_rfl) (by kernel_rfl) (by kernel_rfl) ?hq513 ?hy513 (by assumption) ?hr513
            case hi513 => (simp only [List.getElem?_toArray, List.getElem?_cons_succ, List.getElem?_cons_zero]; rfl)
            case hy513 => ((refine .inl ⟨by rfl, ?_⟩); intro w hS; have q := hS.2.cell; go_simp; (try with_reducible rfl))
            case hq513 => exact fun _ _ _ h => h
            (try simp only [Act.put, List.setIfInBounds_toArray, List.set_cons_zero, List.set_cons_succ])
            refine wpAnyZ_take (i := 2) (oi := ?o514) (v := ?v514) ?hi514 (by kernel_rfl) (by kernel_rfl) (by kernel_rfl) (by kernel_rfl) ?hq514 ?hy514 (by assumption) ?hr514
            case hi514 => (simp only [List.getElem?_toArray, List.getElem?_cons_succ, List.getElem?_cons_zero]; rfl)
            case hy514 => ((refine .inl ⟨by rfl, ?_⟩); intro w hS; go_simp; (try with_reducible rfl))
            case hq514 => exact fun _ _ _ h => h
            (try simp only [Act.put, List.setIfInBounds_toArray, List.set_cons_zero, List.set_cons_succ])
            refine wpAnyZ_take (i := 3) (oi := ?o515) (v := ?v515) ?hi515 (by kernel_rfl) (by kernel_rfl) (by kernel_rfl) (by kernel_rfl) ?hq515 ?hy515 (by assumption) ?hr515
            case hi515 => (simp only [List.getElem?_toArray, List.getElem?_cons_succ, List.getElem?_cons_zero]; rfl)
            case hy515 => ((refine .inl ⟨by rfl, ?_⟩); intro w hS; go_simp; (try with_reducible rfl))
            case hq515 => exact fun _ _ _ h => h
            (try simp only [Act.put, List.setIfInBounds_toArray, List.set_cons_zero, List.set_cons_succ])
            refine wpAnyZ_take (i := 4) (oi := ?o516) (v := ?v516) ?hi516 (by kernel_rfl) (by kernel_rfl) (by kernel_rfl) (by kernel_rfl) ?hq516 ?hy516 (by assumption) ?hr516
            case hi516 => (simp only [List.getElem?_toArray, List.getElem?_cons_succ, List.getElem?_cons_zero]; rfl)
            case hy516 => ((refine .inl ⟨by rfl, ?_⟩); intro w hS; go_simp; (try with_reducible rfl))
            case hq516 => exact fun _ _ _ h => h
            (try simp only [Act.put, List.setIfInBounds_toArray, List.set_cons_zero, List.set_cons_succ])
            refine wpAnyZ_take (i := 5) (oi := ?o517) (v := ?v517) ?hi517 (by kernel_rfl) (by kernel_rfl) (by kernel_rfl) (by kernel_rfl) ?hq517 ?hy517 (by assumption) ?hr517
            case hi517 => (simp only [List.getElem?_toArray, List.getElem?_cons_succ, List.getElem?_cons_zero]; rfl)
            case hy517 => ((refine .inl ⟨by rfl, ?_⟩); intro w hS; have q := HOJ.out _ hS.1; go_simp; (try with_reducible rfl))
            case hq517 => exact fun _ _ _ h => h
            (try simp only [Act.put, List.setIfInBounds_toArray, List.set_cons_zero, List.set_cons_succ])
            refine wpAnyZ_take (i := 6) (oi := ?o518) (v := ?v518) ?hi518 (by kernel_rfl) (by kernel_rfl) (by kernel_rfl) (by kernel_rfl) ?hq518 ?hy518 (by assumption) ?hr518
            case hi518 => (simp only [List.getElem?_toArray, List.getElem?_cons_succ, List.getElem?_cons_zero]; rfl)
            case hy518 => ((refine .inl ⟨by rfl, ?_⟩); intro w hS; go_simp; (try with_reducible rfl))
            case hq518 => exact fun _ _ _ h => h
            (try simp only [Act.put, List.setIfInBounds_toArray, List.set_cons_zero, List.set_cons_succ])
            refine wpAnyZ_one (i := 7) (by kernel_rfl) rfl (by kernel_rfl) (fun K hK => ?_)
            go_simp
            refine hK.out _ _ (⟨hHeld.1.alloc hHeld.1.size _, hHeld.2.alloc _⟩) (fun hHeld => ?_)
            clear hK K
            (try simp only [Act.put, List.setIfInBounds_toArray, List.set_cons_zero, List.set_cons_succ])
            refine wpAnyZ_one (i := 8) (by kernel_rfl) rfl (by kernel_rfl) (fun K hK => ?_)
            refine step_appNA (w := wr.drew) HPD2.out.drew (H := wr.heap.size) rfl info_rpend Try.underlying74 rfl (by decide) (us := [.int .i64 a, .string blankS]) rfl (by unfold maxLen; have := HL.out; omega) (by have := HL.out; omega) hszr (by intro u hu; simp only [List.mem_cons, List.not_mem_nil, or_false] at hu; rcases hu with rfl | rfl <;> rfl) rfl rfl (by rfl) (by rfl) rfl ?_; intro v5 w5 hown5 hg5 hbl5; have hrw5 := (HRW.out.drewN 1).grown hg5 (fun e => own_row_ne HPD2.out HRW.out (by decide) go e.symm rfl); have hb5 := HBJ.out.drew.grown hg5 hszr (fun k hk => (HPD2.out.lt k hk).1); obtain ⟨A5, c5, hv5⟩ := own_slice hown5; subst hv5; have q5 := hrw5.cell; have f5 := hrw5.frozen
            refine hK.out _ _ (⟨hb5, hrw5⟩) (fun hHeld => ?_)
            clear hK K
            (try simp only [Act.put, List.setIfInBounds_toArray])
            refine wpAnyZ_one (i := 9) (by kernel_rfl) rfl (by kernel_rfl) (fun K hK => ?_)
            go_simp
            refine hK.out _ _ (hHeld) (fun hHeld => ?_)
            clear hK K
            (try simp only [Act.put, List.setIfInBounds_toArray, List.set_cons_zero, List.set_cons_succ])
            refine wpAnyZ_last (by kernel_rfl) rfl (fun K hK => ?_)
            go_simp
            refine hK.out _ _ ?_
            clear hK K
            (try simp only [Act.put])
            refine wpAnyZ_done (by kernel_rfl) ?_ _
            have hr2 : RowAt _ go 76 #[.int .i64 st, .int .i64 ba, .slice A5 (L + 1) c5] := hrw5.set_ 2 (.slice A5 (L + 1) c5)
            have hp2 := own_set_ty (j := 2) (u := .slice A5 (L + 1) c5) hown5 hrw5 (by decide)
            have hb6 := hb5.setCell (p := ⟨go, 2, none⟩) hgo (.slice A5 (L + 1) c5)
            rw [show flat encP (moreP l out [] j) ++ [.int .i64 a, .string blankS] = flat encP (moreP l out [] (j + 1)) by rw [HM2.out, flat_snoc]; rfl] at hp2
            go_wp2_with fail
            go_roundw
            case rel => exact ⟨j + 1, A5, c5, L + 1, Lib.hid (by have := HL.out; omega), by omega, by go_num, hr2, hp2, hb6⟩
            case measure => simp [intOf]; omega
          · obtain rfl : j = k := by omega
            have hge2 : ¬ (j : Int) < (j : Int) := by omega
            have qg := HRW.out.cell
            have hrz := HRZ2.out.below HBJ.out hgz
            have qz := hrz.cell
            have fz := hrz.frozen
            have hneq : go ≠ w.heap.size + 1 := by omega
            have hLL := HL.out
            subst hLL
            go_wp2_with fail
            have qr := (((hrz.set_ 0 (.int .i64 st)).set_ 1 (.int .i64 ba)).set_ 2 (.slice A8 (m + j) c8)).cell
            refine bodyPost_ret (v := .tuple #[rwV st ba A8 (m + j) c8, .slice Ao j co, .int .i64 0]) (by simp [rwV, results, Try.results47, go_sem, qr]) rfl ?_
            rw [HE.out.1, HE.out.2.1, HE.out.2.2]
            have hbz := below_set3 (HB2.out.trans (HBJ.out.mono HB2.out.size)) (g := w.heap.size + 1) (by omega) (.int .i64 st) (.int .i64 ba) (.slice A8 (m + j) c8)
            have o3 := own_set3 HPD2.out (g := w.heap.size + 1) hgz (.int .i64 st) (.int .i64 ba) (.slice A8 (m + j) c8)
            have i3 := own_set3 (own_all HOI.out HBJ.out) (g := w.heap.size + 1) hg1 (.int .i64 st) (.int .i64 ba) (.slice A8 (m + j) c8)
            exact ⟨hbz, A8, c8, Ao, co, by rw [moreP_length, HM.out, HON.out], by rw [HON.out]; exact .inr (by rw [moreP_length, HM.out]; exact own_le o3 HB2.out.size), by rw [HON.out]; exact own_le i3 (by first | omega | (simp; omega) | simp)⟩
end Go.Proofs.Ytdmdfpdigoijoaa
