/-
  Chapter 52: Cut and Record of the program.
-/
import Derived.Test.YtdmdfpdigoijoaaPwS
import Derived.Test.YtdmdfpdigoijoaaPwC
import Derived.Test.YtdmdfpdigoijoaaPwD
import Derived.Test.YtdmdfpdigoijoaaHeld
namespace Go.Proofs.Ytdmdfpdigoijoaa
open Go.RowKit Go.Shelf
set_option linter.unusedVariables false
attribute [local go_sem] Oper.semAt_some

/-- What Cut answers, and where it lies. -/
def CutRes (img : Img) (ws : List Wr) (n : Int) (w : World) (e : Ending) (w' : World) : Prop :=
  Below w.heap.size w w' ∧ ∃ A c, e = .returned (.tuple #[.slice A (cutR img ws n).1.length c, .int .i64 (cutR img ws n).2]) ∧ SlAt w' w'.heap.size A (strV (cutR img ws n).1)
theorem CutRes.no {img : Img} {ws : List Wr} {n E : Int} {w w' : World} {e : Ending} (h : cutR img ws n = ([], E)) (hb : Below w.heap.size w w') (he : e = .returned (.tuple #[.slice none 0 0, .int .i64 E])) : CutRes img ws n w e w' :=
  ⟨hb, none, 0, by rw [h]; exact he, by rw [h]; exact SlAt.nil _ _ _⟩
/-- The same, and the image is a row of the call's own. -/
def CutOwn (img : Img) (ws : List Wr) (n : Int) (w : World) (e : Ending) (w' : World) : Prop :=
  Below w.heap.size w w' ∧ ∃ A c, e = .returned (.tuple #[.slice A (cutR img ws n).1.length c, .int .i64 (cutR img ws n).2]) ∧ w'.ownsRow w.heap.size 9 1 (.slice A (cutR img ws n).1.length c) (cutR img ws n).1.length (strV (cutR img ws n).1)
theorem CutOwn.res {img : Img} {ws : List Wr} {n : Int} {w w' : World} {e : Ending} (h : CutOwn img ws n w e w') : CutRes img ws n w e w' := by
  obtain ⟨hb, A, c, he, ho⟩ := h
  exact ⟨hb, A, c, he, SlAt.of_own' ho (Nat.le_refl _)⟩
theorem CutOwn.no {img : Img} {ws : List Wr} {n E : Int} {w w' : World} {e : Ending} (h : cutR img ws n = ([], E)) (hb : Below w.heap.size w w') (he : e = .returned (.tuple #[.slice none 0 0, .int .i64 E])) : CutOwn img ws n w e w' :=
  ⟨hb, none, 0, by rw [h]; exact he, by rw [h]; exact World.ownsRow_nil _ _ _ _⟩
/-- The steps of valid writes have addresses below 4096. -/
def StOk (s : Stp) : Prop := 0 ≤ s.pos ∧ s.pos < 4096
theorem steps_ok {ws : List Wr} (h : ws.all wrOk = true) : ∀ s ∈ stepsL ws, StOk s := by
  intro s hs
  unfold stepsL at hs
  obtain ⟨x, hx, hs⟩ := List.mem_flatMap.1 hs
  have hxo := List.all_eq_true.1 h x hx
  unfold wrOk at hxo
  simp only [Bool.and_eq_true, decide_eq_true_eq] at hxo
  obtain ⟨h0, h1, h2, _⟩ := hxo
  unfold stepsW at hs
  rcases List.mem_append.1 hs with hs | hs
  · unfold stepsB at hs
    obtain ⟨i, hi, rfl⟩ := List.mem_map.1 hs
    rw [List.mem_range] at hi
    unfold StOk
    dsimp only
    rw [IntWalk.wrap64_in _ (by omega)]
    omega
  · split at hs
    · rw [List.mem_singleton] at hs
      subst hs
      unfold StOk
      dsimp only
      omega
    · exact (List.not_mem_nil hs).elim
def okY (ws : List Wr) (h : ws.all wrOk = true) : List (StpG StOk) := (stepsL ws).attach.map fun s => ⟨s.1, steps_ok h s.1 s.2⟩
theorem okY_map (ws : List Wr) (h : ws.all wrOk = true) : (okY ws h).map (·.1) = stepsL ws := by
  unfold okY
  rw [List.map_map]
  exact List.attach_map_subtype_val _
theorem okY_length (ws : List Wr) (h : ws.all wrOk = true) : (okY ws h).length = nSt ws := by simp [okY, nSt]

set_option maxRecDepth 100000 in
set_option maxHeartbeats 1000000 in
theorem cut_bad (A A' : Option Addr) (c c' : Nat) (img : Img) (ws : List Wr) (n : Int) (w : World) (hs : SlAt w w.heap.size A (strV img)) (h : WrAt w w.heap.size A' ws) (hi : img.length ≤ 1000000) (hw : ws.length ≤ 1000000) (hx : ∀ x ∈ ws, x.bl.length ≤ 1000000) (hv : validB img ws = false) :
    Calls Try.prog 16 #[.slice A img.length c, .slice A' ws.length c', .int .i64 n] w (CutOwn img ws n w) := by
  have HR : Hid (cutR img ws n = ([], 1)) := Lib.hid (by unfold cutR; rw [hv]; rfl)
  have CV := Lib.hid (fun w' (hb : Below w.heap.size w w') => valid_any A A' c c' img ws w' ((hs.below hb).mono hb.size) ((h.below hb).mono hb.size) hi hw hx)
  rw [hv] at CV
  generalize img.length = a at *
  generalize ws.length = b at *
  clear hs h hv
  go_enter Try.func16, Try.ntmps16
  have hb0 : Below w.heap.size w (w.alloc (.cells #[.int .i64 n] 3)) := (Below.refl _ _).alloc (Nat.le_refl _) _
  have CV2 := Lib.hid (CV.out _ hb0)
  go_wp2_with fail
  refine CV2.out.mono ?_
  rintro e w1 ⟨rfl, hb1⟩
  have hb2 := hb0.trans (hb1.mono hb0.size)
  clear hb1
  go_wp2_with fail
  go_ret2
  exact CutOwn.no HR.out hb2 rfl

set_option maxRecDepth 100000 in
set_option maxHeartbeats 2000000 in
theorem cut_range (A A' : Option Addr) (c c' : Nat) (img : Img) (ws : List Wr) (n : Int) (w : World) (hs : SlAt w w.heap.size A (strV img)) (h : WrAt w w.heap.size A' ws) (hi : img.length ≤ 1000000) (hw : ws.length ≤ 1000000) (hx : ∀ x ∈ ws, x.bl.length ≤ 1000000) (hS : nSt ws ≤ 1000000000000) (hv : validB img ws = true) (hn : n < 0 ∨ (nSt ws : Int) < n) :
    Calls Try.prog 16 #[.slice A img.length c, .slice A' ws.length c', .int .i64 n] w (CutOwn img ws n w) := by
  have HR : Hid (cutR img ws n = ([], 2)) := Lib.hid (by unfold cutR; rw [hv, if_pos rfl, if_pos hn])
  have CV := Lib.hid (fun w' (hb : Below w.heap.size w w') => valid_any A A' c c' img ws w' ((hs.below hb).mono hb.size) ((h.below hb).mono hb.size) hi hw hx)
  have CS := Lib.hid (fun w' (hb : Below w.heap.size w w') => steps_any A' c' ws w' ((h.below hb).mono hb.size) hw hx hS)
  rw [hv] at CV
  generalize nSt ws = S at *
  generalize img.length = a at *
  generalize ws.length = b at *
  have h0 := (St.start w).new (g := w.heap.size) rfl #[.int .i64 n] 3
  clear hs h hv
  by_cases hneg : n < 0
  · have hnb : decide (n < 0) = true := decide_eq_true hneg
    clear hn
    go_enter Try.func16, Try.ntmps16
    have CV2 := Lib.hid (CV.out _ h0.bel)
    go_wp2_with fail
    refine CV2.out.mono ?_
    rintro e w1 ⟨rfl, hb1⟩
    have h1 := St.call hb1 h0
    have q := (h1.at (i := 0) rfl).cell
    clear hb1 h0
    go_upto_region 3 with fail
    go_quiet (fail)
    go_wp2_with fail
    go_ret2
    exact CutOwn.no HR.out (below_drewN h1.bel _) rfl
  · have hnb : decide (n < 0) = false := decide_eq_false hneg
    have hgt : (S : Int) < n := by omega
    clear hn
    go_enter Try.func16, Try.ntmps16
    have CV2 := Lib.hid (CV.out _ h0.bel)
    go_wp2_with fail
    refine CV2.out.mono ?_
    rintro e w1 ⟨rfl, hb1⟩
    have h1 := St.call hb1 h0
    clear hb1 h0
    go_upto_region 3 with fail
    refine wp_region_held_drew (S := (fun w' => St w w' [(w.heap.size, 3, #[.int .i64 n])])) (by kernel_rfl) (h1.drew) (fun hHeld => ?_)
    refine wpAnyH_take (i := 0) (oi := ?o8) (v := ?v8) ?hi8 (by kernel_rfl) (by kernel_rfl) (by kernel_rfl) ?hq8 ?hy8 (by assumption) ?hr8
    case hi8 => (simp only [List.getElem?_toArray, List.getElem?_cons_zero]; rfl)
    case hy8 => ((refine .inl ⟨by rfl, ?_⟩); intro w hS; have q := (hS.at (i := 0) rfl).cell; go_simp; (try with_reducible rfl))
    case hq8 => exact fun _ _ _ h => h
    (simp only [Act.put, List.setIfInBounds_toArray, List.set_cons_zero, List.set_cons_succ])
    refine wpAnyH_take (i := 1) (oi := ?o9) (v := ?v9) ?hi9 (by kernel_rfl) (by kernel_rfl) (by kernel_rfl) ?hq9 ?hy9 (by assumption) ?hr9
    case hi9 => (simp only [List.getElem?_toArray, List.getElem?_cons_succ, List.getElem?_cons_zero]; rfl)
    case hy9 => ((refine .inl ⟨by rfl, ?_⟩); intro w hS; go_simp; (try with_reducible rfl))
    case hq9 => exact fun _ _ _ h => h
    (simp only [Act.put, List.setIfInBounds_toArray, List.set_cons_zero, List.set_cons_succ])
    refine wpAnyH_take (i := 2) (oi := ?o10) (v := ?v10) ?hi10 (by kernel_rfl) (by kernel_rfl) (by kernel_rfl) ?hq10 ?hy10 (by assumption) ?hr10
    case hi10 => (simp only [List.getElem?_toArray, List.getElem?_cons_succ, List.getElem?_cons_zero]; rfl)
    case hy10 => ((refine .inl ⟨by rfl, ?_⟩); intro w hS; go_simp; (try with_reducible rfl))
    case hq10 => exact fun _ _ _ h => h
    (simp only [Act.put, List.setIfInBounds_toArray, List.set_cons_zero, List.set_cons_succ])
    refine wpAnyH_take (i := 3) (oi := ?o11) (v := ?v11) ?hi11 (by kernel_rfl) (by kernel_rfl) (by kernel_rfl) ?hq11 ?hy11 (by assumption) ?hr11
    case hi11 => (simp only [List.getElem?_toArray, List.getElem?_cons_succ, List.getElem?_cons_zero]; rfl)
    case hy11 => ((refine .inl ⟨by rfl, ?_⟩); intro w hS; have q := (hS.at (i := 0) rfl).cell; go_simp; (try with_reducible rfl))
    case hq11 => exact fun _ _ _ h => h
    (simp only [Act.put, List.setIfInBounds_toArray, List.set_cons_zero, List.set_cons_succ])
    refine wpAnyH_take (i := 4) (oi := ?o12) (v := ?v12) ?hi12 (by kernel_rfl) (by kernel_rfl) (by kernel_rfl) ?hq12 ?hy12 (by assumption) ?hr12
    case hi12 => (simp only [List.getElem?_toArray, List.getElem?_cons_succ, List.getElem?_cons_zero]; rfl)
    case hy12 => ((refine .inl ⟨by rfl, ?_⟩); intro w hS; go_simp; (try with_reducible rfl))
    case hq12 => exact fun _ _ _ h => h
    (simp only [Act.put, List.setIfInBounds_toArray, List.set_cons_zero, List.set_cons_succ])
    refine wpAnyH_ready (rs := [5]) (by kernel_rfl) (by simp) ?_
    refine AllReadyH.cons rfl (fun K hK => ?_) AllReadyH.nil
    go_simp
    go_wp2_with ((refine (CS.out _ hHeld.bel).mono ?_; rintro e w5 ⟨rfl, hb5⟩))
    refine hK.out _ _ (St.call hb5 hHeld) (fun hHeld1 => ?_)
    clear hK K
    (try simp only [Act.put, List.setIfInBounds_toArray, List.set_cons_zero, List.set_cons_succ])
    clear hHeld; have hHeld := hHeld1; clear hHeld1
    refine wpAnyH_take (i := 6) (oi := ?o13) (v := ?v13) ?hi13 (by kernel_rfl) (by kernel_rfl) (by kernel_rfl) ?hq13 ?hy13 (by assumption) ?hr13
    case hi13 => (simp only [List.getElem?_toArray, List.getElem?_cons_succ, List.getElem?_cons_zero]; rfl)
    case hy13 => ((refine .inl ⟨by rfl, ?_⟩); intro w hS; go_simp; (try with_reducible rfl))
    case hq13 => exact fun _ _ _ h => h
    (simp only [Act.put, List.setIfInBounds_toArray, List.set_cons_zero, List.set_cons_succ])
    refine wpAnyH_take (i := 7) (oi := ?o14) (v := ?v14) ?hi14 (by kernel_rfl) (by kernel_rfl) (by kernel_rfl) ?hq14 ?hy14 (by assumption) ?hr14
    case hi14 => (simp only [List.getElem?_toArray, List.getElem?_cons_succ, List.getElem?_cons_zero]; rfl)
    case hy14 => ((refine .inl ⟨by rfl, ?_⟩); intro w hS; go_simp; (try with_reducible rfl))
    case hq14 => exact fun _ _ _ h => h
    (simp only [Act.put, List.setIfInBounds_toArray, List.set_cons_zero, List.set_cons_succ])
    refine wpAnyH_done (by kernel_rfl) ?_ _
    go_wp2_with fail
    go_ret2
    exact CutOwn.no HR.out hHeld.bel rfl

theorem St.grown_ty {w W W' : World} {rows : Rows} {base e size n : Nat} {v : Value} {xs : List Value} (h : St w W rows) (ho : W.ownsRow base e size v n xs) (hg : W.grownBy W' v.ownBlock) (hb : w.heap.size ≤ base) (hne : ∀ r ∈ rows, r.2.1 ≠ e) : St w W' rows :=
  ⟨h.1.grown hg h.1.size (fun k hk => Nat.le_trans hb (ho.lt k hk).1), fun r hm => ⟨(h.2.1 r hm).1, (h.2.1 r hm).2.grown hg (fun e' => own_row_ne ho (h.2.1 r hm).2 (Ne.symm (hne r hm)) r.1 e'.symm rfl)⟩, h.2.2⟩
theorem own_set_ty {W : World} {base e size n g j : Nat} {v u : Value} {xs : List Value} {t : TypeId} {cs : Array Value} (h : W.ownsRow base e size v n xs) (hr : RowAt W g t cs) (hne : e ≠ t) : (W.setCell ⟨g, j, none⟩ u).ownsRow base e size v n xs := by
  have hk := own_row_ne h hr hne
  refine ⟨h.1, ?_⟩
  rcases h.2 with h2 | ⟨k, cap, cur, hv, hb, hh, r⟩
  · exact .inl h2
  · refine .inr ⟨k, cap, cur, hv, hb, ?_, r⟩
    have h1 : (W.setCell ⟨g, j, none⟩ u).heap[k]? = W.heap[k]? := Below.heap_setCell W _ _ k (hk k (by rw [hv]; rfl))
    rw [h1]
    exact hh
theorem KeepsOthers.of_own {W W' : World} {base e size n : Nat} {v : Value} {xs : List Value} (h : W.ownsRow base e size v n xs) (hg : W.grownBy W' v.ownBlock) : KeepsOthers W W' := KeepsOthers.of_grownBy hg (own_cells h)

abbrev cutRows (g0 go gi gw : Nat) (A : Option Addr) (m c : Nat) (N k : Nat) (v : Value) : Rows := [(gw, 24, #[.slice A m c]), (gi, 3, #[.int .i64 (k : Int)]), (go, 23, #[v]), (g0, 3, #[.int .i64 (N : Int)])]
def cutP (N : Nat) (img : Img) (pre : List (StpG StOk)) (k : Nat) : Img := cutK N (pre.map (·.1)) img k
theorem cutP_snoc {N : Nat} {img : Img} {pre : List (StpG StOk)} {x : StpG StOk} : cutP N img (pre ++ [x]) (pre.length + 1) = apS N pre.length x.1 (cutP N img pre pre.length) := by
  unfold cutP
  rw [List.map_append, List.map_cons, List.map_nil, cutK_succ (s := x.1) (by rw [List.getElem?_append_right (by simp)]; simp)]
  congr 1
  exact (cutK_pre ⟨[x.1], rfl⟩ _ (by simp)).symm
theorem cutP_keep {N : Nat} {img : Img} {pre : List (StpG StOk)} {x : StpG StOk} {k : Nat} (hk : k ≤ pre.length) : cutP N img (pre ++ [x]) k = cutP N img pre k := by
  unfold cutP
  rw [List.map_append]
  exact (cutK_pre ⟨_, rfl⟩ _ (by simpa using hk)).symm
theorem apS_len {N k : Nat} {s : Stp} {out : Img} (hs : StOk s) (ho : out.length ≤ 4096) : (apS N k s out).length ≤ 4096 := by
  unfold apS
  obtain ⟨h0, h1⟩ := hs
  split
  · exact ho
  · rw [putL_length]
    omega
/-- Between two rounds. -/
def CutI (w : World) (base g0 go gi gw : Nat) (A : Option Addr) (m c N : Nat) (img : Img) (pre : List (StpG StOk)) (W : World) : Prop :=
  ∃ v, St w W (cutRows g0 go gi gw A m c N pre.length v) ∧ W.ownsRow base 9 1 v (cutP N img pre pre.length).length (strV (cutP N img pre pre.length)) ∧ pre.length ≤ N + 1 ∧ (cutP N img pre pre.length).length ≤ 4096
/-- The loop has been left. -/
def CutX (w : World) (base g0 go gi gw : Nat) (A : Option Addr) (m c N : Nat) (img : Img) (cd : Code) (pre : List (StpG StOk)) (W : World) : Prop :=
  cd = .exit 0 ∧ ∃ v, St w W (cutRows g0 go gi gw A m c N (N + 1) v) ∧ W.ownsRow base 9 1 v (cutP N img pre (N + 1)).length (strV (cutP N img pre (N + 1))) ∧ pre.length = N + 2

theorem cut_end {w W : World} {rows : Rows} {base D : Nat} {img out : Img} {ws : List Wr} {N : Nat} {v : Value} (hR : cutR img ws (N : Int) = (out, 0)) (hm : St w W rows) (ho : W.ownsRow base 9 1 v (cutR img ws (N : Int)).1.length (strV (cutR img ws (N : Int)).1)) (hK : W.heap[D]? = some (.deferred (some []))) (hD : w.heap.size ≤ D) (hb : w.heap.size ≤ base) :
    ∃ E1, v = E1 ∧ CutOwn img ws (N : Int) w (.returned (.tuple #[E1, .int .i64 0])) (W.putObj D (.deferred none)) := by
  have hg := grownBy_putObj' W D (.deferred none)
  have hc : ∀ q, some D = some q → w.heap.size ≤ q ∧ ∃ o : Obj, W.heap[q]? = some o ∧ o.isCells = false := fun q e => by cases e; exact ⟨hD, _, hK, rfl⟩
  have ho' := ownsRow_own ho hg hc
  obtain ⟨A, c, rfl⟩ := own_slice ho
  exact ⟨_, rfl, hm.bel.grown hg hm.bel.size (fun k e => (hc k e).1), A, c, by rw [hR], own_base ho' hb⟩

set_option maxRecDepth 100000 in
set_option maxHeartbeats 8000000 in
theorem cut_go (A A' : Option Addr) (c c' : Nat) (img : Img) (ws : List Wr) (N : Nat) (w : World) (hs : SlAt w w.heap.size A (strV img)) (h : WrAt w w.heap.size A' ws) (hi : img.length ≤ 1000000) (hw : ws.length ≤ 1000000) (hx : ∀ x ∈ ws, x.bl.length ≤ 1000000) (hS : nSt ws ≤ 1000000000000) (hv : validB img ws = true) (hn : N ≤ nSt ws) :
    Calls Try.prog 16 #[.slice A img.length c, .slice A' ws.length c', .int .i64 (N : Int)] w (CutOwn img ws (N : Int) w) := by
  have HR : Hid (cutR img ws (N : Int) = (cutL N (stepsL ws) img, 0)) := Lib.hid (by unfold cutR; rw [hv, if_pos rfl, if_neg (by omega)]; rfl)
  have hv' := hv
  unfold validB at hv'
  simp only [Bool.and_eq_true, decide_eq_true_eq] at hv'
  obtain ⟨hi4, _, _, hwo⟩ := hv'
  have HWO : Hid (ws.all wrOk = true) := hwo
  have CV := Lib.hid (fun w' (hb : Below w.heap.size w w') => valid_any A A' c c' img ws w' ((hs.below hb).mono hb.size) ((h.below hb).mono hb.size) hi hw hx)
  have CS := Lib.hid (fun w' (hb : Below w.heap.size w w') => steps_any A' c' ws w' ((h.below hb).mono hb.size) hw hx hS)
  have CC := Lib.hid (fun w' (hb : Below w.heap.size w w') => clone_any A c img w' ((hs.below hb).mono hb.size) hi)
  have HW := Lib.hid h
  have HX := Lib.hid hx
  have HWL := Lib.hid hw
  rw [hv] at CV
  obtain ⟨a, ha⟩ : ∃ a, img.length = a := ⟨_, rfl⟩
  obtain ⟨m, hm⟩ : ∃ m, ws.length = m := ⟨_, rfl⟩
  obtain ⟨S, hSS⟩ : ∃ S, nSt ws = S := ⟨_, rfl⟩
  have HA := Lib.hid ha
  have HM := Lib.hid hm
  have HSS := Lib.hid hSS
  rw [ha] at CV CC hi4 ⊢
  rw [hm] at CV CS ⊢
  rw [hSS] at CS hn hS
  have h0 := (St.start w).new (g := w.heap.size) rfl #[.int .i64 (N : Int)] 3
  have hnb : decide ((N : Int) < 0) = false := decide_eq_false (by omega)
  have hngt : ¬ (S : Int) < (N : Int) := by omega
  clear hs h hv hi hw hx ha hm hSS hwo
  refine (callsIn_wide (n := 5)).1 ?_
  refine callsIn_of_wp_marks Try.func16 rfl trivial ?_ rfl
  simp only [Try.ntmps16, List.size_toArray, List.length_cons, List.length_nil, Nat.reduceAdd, Nat.reduceSub, Array.replicate_succ, Array.replicate_zero, List.push_toArray, List.append_toArray, List.nil_append, List.cons_append]
  refine wpIn_wide.2 ?_
  have CV2 := Lib.hid (CV.out _ h0.bel)
  go_wp2_with fail
  refine CV2.out.mono ?_
  rintro e w1 ⟨rfl, hb1⟩
  have h1 := St.call hb1 h0
  clear hb1 h0 CV2
  go_upto_region 3 with fail
  refine wp_region_noPanic ?_
  refine wp_region_held_drew (S := (fun w' => St w w' [(w.heap.size, 3, #[.int .i64 (N : Int)])])) (by kernel_rfl) (h1.drew) (fun hHeld => ?_)
  refine wpAnyH_take (i := 0) (oi := ?o1) (v := ?v1) ?hi1 (by kernel_rfl) (by kernel_rfl) (by kernel_rfl) ?hq1 ?hy1 (by assumption) ?hr1
  case hi1 => (simp only [List.getElem?_toArray, List.getElem?_cons_zero]; rfl)
  case hy1 => ((refine .inl ⟨by rfl, ?_⟩); intro w hS; have q := (hS.at (i := 0) rfl).cell; go_simp; (try with_reducible rfl))
  case hq1 => exact fun _ _ _ h => h
  (simp only [Act.put, List.setIfInBounds_toArray, List.set_cons_zero, List.set_cons_succ])
  refine wpAnyH_take (i := 1) (oi := ?o2) (v := ?v2) ?hi2 (by kernel_rfl) (by kernel_rfl) (by kernel_rfl) ?hq2 ?hy2 (by assumption) ?hr2
  case hi2 => (simp only [List.getElem?_toArray, List.getElem?_cons_succ, List.getElem?_cons_zero]; rfl)
  case hy2 => ((refine .inl ⟨by rfl, ?_⟩); intro w hS; go_simp; (try with_reducible rfl))
  case hq2 => exact fun _ _ _ h => h
  (simp only [Act.put, List.setIfInBounds_toArray, List.set_cons_zero, List.set_cons_succ])
  refine wpAnyH_take (i := 2) (oi := ?o3) (v := ?v3) ?hi3 (by kernel_rfl) (by kernel_rfl) (by kernel_rfl) ?hq3 ?hy3 (by assumption) ?hr3
  case hi3 => (simp only [List.getElem?_toArray, List.getElem?_cons_succ, List.getElem?_cons_zero]; rfl)
  case hy3 => ((refine .inl ⟨by rfl, ?_⟩); intro w hS; go_simp; (try with_reducible rfl))
  case hq3 => exact fun _ _ _ h => h
  (simp only [Act.put, List.setIfInBounds_toArray, List.set_cons_zero, List.set_cons_succ])
  refine wpAnyH_take (i := 3) (oi := ?o4) (v := ?v4) ?hi4 (by kernel_rfl) (by kernel_rfl) (by kernel_rfl) ?hq4 ?hy4 (by assumption) ?hr4
  case hi4 => (simp only [List.getElem?_toArray, List.getElem?_cons_succ, List.getElem?_cons_zero]; rfl)
  case hy4 => ((refine .inl ⟨by rfl, ?_⟩); intro w hS; have q := (hS.at (i := 0) rfl).cell; go_simp; (try with_reducible rfl))
  case hq4 => exact fun _ _ _ h => h
  (simp only [Act.put, List.setIfInBounds_toArray, List.set_cons_zero, List.set_cons_succ])
  refine wpAnyH_take (i := 4) (oi := ?o5) (v := ?v5) ?hi5 (by kernel_rfl) (by kernel_rfl) (by kernel_rfl) ?hq5 ?hy5 (by assumption) ?hr5
  case hi5 => (simp only [List.getElem?_toArray, List.getElem?_cons_succ, List.getElem?_cons_zero]; rfl)
  case hy5 => ((refine .inl ⟨by rfl, ?_⟩); intro w hS; go_simp; (try with_reducible rfl))
  case hq5 => exact fun _ _ _ h => h
  (simp only [Act.put, List.setIfInBounds_toArray, List.set_cons_zero, List.set_cons_succ])
  refine wpAnyH_ready (rs := [5]) (by kernel_rfl) (by simp) ?_
  refine AllReadyH.cons rfl (fun K hK => ?_) AllReadyH.nil
  go_simp
  go_wp2_with ((refine (CS.out _ hHeld.bel).mono ?_; rintro e w5 ⟨rfl, hb5⟩))
  refine hK.out _ _ (St.call hb5 hHeld) (fun hHeld1 => ?_)
  clear hK K
  (try simp only [Act.put, List.setIfInBounds_toArray, List.set_cons_zero, List.set_cons_succ])
  clear hHeld; have hHeld := hHeld1; clear hHeld1
  refine wpAnyH_take (i := 6) (oi := ?o6) (v := ?v6) ?hi6 (by kernel_rfl) (by kernel_rfl) (by kernel_rfl) ?hq6 ?hy6 (by assumption) ?hr6
  case hi6 => (simp only [List.getElem?_toArray, List.getElem?_cons_succ, List.getElem?_cons_zero]; rfl)
  case hy6 => ((refine .inl ⟨by rfl, ?_⟩); intro w hS; go_simp; (try with_reducible rfl))
  case hq6 => exact fun _ _ _ h => h
  (simp only [Act.put, List.setIfInBounds_toArray, List.set_cons_zero, List.set_cons_succ])
  refine wpAnyH_take (i := 7) (oi := ?o7) (v := ?v7) ?hi7 (by kernel_rfl) (by kernel_rfl) (by kernel_rfl) ?hq7 ?hy7 (by assumption) ?hr7
  case hi7 => (simp only [List.getElem?_toArray, List.getElem?_cons_succ, List.getElem?_cons_zero]; rfl)
  case hy7 => ((refine .inl ⟨by rfl, ?_⟩); intro w hS; go_simp; (try with_reducible rfl))
  case hq7 => exact fun _ _ _ h => h
  (simp only [Act.put, List.setIfInBounds_toArray, List.set_cons_zero, List.set_cons_succ])
  refine wpAnyH_done (by kernel_rfl) ?_ _
  refine NoPanic.normal ?_
  have CC2 := Lib.hid (CC.out _ hHeld.bel)
  go_wp2_with fail
  refine CC2.out.mono ?_
  rintro e w3 ⟨v, rfl, hown3, hb3⟩
  have h3 := St.call hb3 hHeld
  have hbase : w.heap.size ≤ w5.heap.size := hHeld.bel.size
  have hb53 : w5.heap.size ≤ w3.heap.size := hb3.size
  clear hb3 hHeld CC2 h1 hb5 CC CV CS
  obtain ⟨vA, vc, hvv⟩ := own_slice hown3
  subst hvv
  have h4 := ((h3.new (g := w3.heap.size) rfl #[.slice vA a vc] 23).new (g := w3.heap.size + 1) (by simp) #[.int .i64 0] 3).new (g := w3.heap.size + 1 + 1) (by simp) #[.slice A' m c'] 24
  have hown4 := ((hown3.alloc (.cells #[.slice vA a vc] 23)).alloc (.cells #[.int .i64 0] 3)).alloc (.cells #[.slice A' m c'] 24)
  have hsz : (((w3.alloc (.cells #[.slice vA a vc] 23)).alloc (.cells #[.int .i64 0] 3)).alloc (.cells #[.slice A' m c'] 24)).heap.size = w3.heap.size + 3 := by simp
  clear h3
  go_wp2_with fail
  refine (callsIn_wide.1 (steps_in Fence.wide 4 trivial rfl _ _ _ _)).mono ?_
  rintro e w' ⟨rfl, rfl⟩
  generalize ((w3.alloc (.cells #[.slice vA a vc] 23)).alloc (.cells #[.int .i64 0] 3)).alloc (.cells #[.slice A' m c'] 24) = W2 at *
  have hbox := h4.at (i := 0) rfl
  go_wp2_with fail
  refine (wpIn_wide (n := 5)).1 ?_
  obtain ⟨YS, hYS⟩ : ∃ YS, okY ws HWO.out = YS := ⟨_, rfl⟩
  have HYM : Hid (YS.map (·.1) = stepsL ws) := Lib.hid (by rw [← hYS]; exact okY_map ws HWO.out)
  have HYL : Hid (YS.length = S) := Lib.hid (by rw [← hYS, okY_length]; exact HSS.out)
  clear hYS
  refine wpIn_rangeFunc_ownH rfl (by omega) (gf := 78) (lb := #[.pointer (some ⟨w3.heap.size + 1 + 1, 0, none⟩)]) rfl trivial (enters_of Try.func78 (by kernel_rfl) rfl)
    (steps_stops (G := StOk) Fence.wide 4 trivial rfl (by omega) (w3.heap.size + 1 + 1) w.heap.size A' c' ws YS HYM.out HWL.out HX.out W2 (by rw [HM.out]; exact hbox) (HW.out.below h4.bel) h4.bel.size) KpT.trans (fun W l o o' hl ho hc _ => KpT.putObj (by omega) ho hc) (Below.refl _ _) (fun _ => rfl)
    (CutI w w5.heap.size w.heap.size w3.heap.size (w3.heap.size + 1) (w3.heap.size + 1 + 1) A' m c' N img) (CutX w w5.heap.size w.heap.size w3.heap.size (w3.heap.size + 1) (w3.heap.size + 1 + 1) A' m c' N img) ?hI ?hIx ?h0
    (fun x a' W => ∃ Bx, RowAt W Bx 101 #[.int .i64 x.1.pos, .string x.1.b, .bool x.1.cl] ∧ a' = { tmps := #[.slice A a c, .slice A' m c', .int .i64 (N : Int), undef, undef, .pointer (some ⟨w.heap.size, 0, none⟩), .slice none 0 0, .int .i64 0, .pointer (some ⟨w3.heap.size, 0, none⟩), .pointer (some ⟨w3.heap.size + 1, 0, none⟩), .pointer (some ⟨Bx, 0, none⟩), .slice A a c, .slice A' m c', .bool true, .bool false, .int .i64 (N : Int), .bool false, .bool false, .int .i64 (N : Int), .slice A' m c', .int .i64 (S : Int), .bool false, .bool false, .slice A a c, .slice vA a vc, .slice A' m c', .func (.func 78) #[] #[.pointer (some ⟨w3.heap.size + 1 + 1, 0, none⟩)], .agg #[.int .i64 x.1.pos, .string x.1.b, .bool x.1.cl], undef, undef, undef, undef, undef, undef, undef, undef, undef, undef, undef, undef, undef, undef, undef, undef, undef, undef, undef, undef, undef, undef, undef], defers := [] }) ?hAx ?assign ?body ?done ?stop
  case hI =>
    rintro pre A1 B1 row ⟨v, hm, ho, rest⟩ hg hr
    have hr' : ∀ r, row = some r → w.heap.size ≤ r ∧ ∃ o : Obj, A1.heap[r]? = some o ∧ o.isCells = false := fun r e => ⟨by have := (hr r e).1; omega, (hr r e).2⟩
    exact ⟨v, hm.keep_own hg hr', ownsRow_own ho hg hr', rest⟩
  case hIx =>
    rintro cd pre A1 B1 row ⟨hc, v, hm, ho, rest⟩ hg hr
    have hr' : ∀ r, row = some r → w.heap.size ≤ r ∧ ∃ o : Obj, A1.heap[r]? = some o ∧ o.isCells = false := fun r e => ⟨by have := (hr r e).1; omega, (hr r e).2⟩
    exact ⟨hc, v, hm.keep_own hg hr', ownsRow_own ho hg hr', rest⟩
  case h0 => exact ⟨.slice vA a vc, h4, by show W2.ownsRow _ _ _ _ img.length (strV img); rw [HA.out]; exact hown4, by simp, by show img.length ≤ 4096; rw [HA.out]; exact hi4⟩
  case hAx =>
    rintro x a' _ A1 B1 row ⟨Bx, hrx, e⟩ hg hr
    exact ⟨Bx, rowAt_own (B := 0) hrx hg (fun r e => ⟨Nat.zero_le _, (hr r e).2⟩), e⟩
  case assign =>
    rintro l pre x W K ⟨v, hm, ho, rest⟩ hK
    dsimp only [encY]
    gi_wp2
    exact hK _ _ ((KeepsOthers.alloc _ _).from _) (KpT.alloc hm.bel.size _) ⟨v, hm.other _, ho.alloc _, rest⟩ ⟨W.heap.size, RowAt.new _ _ _, rfl⟩
  case body =>
    rintro l pre ⟨⟨xp, xb, xcl⟩, hok⟩ a' W hl _ ⟨v, hm, ho, hp1, hp2⟩ ⟨Bx, hrx, rfl⟩ hlt
    obtain ⟨p, rfl⟩ : ∃ p : Nat, xp = (p : Int) := ⟨xp.toNat, by have := hok.1; dsimp only at this; omega⟩
    have hp : p < 4096 := by have := hok.2; dsimp only at this; omega
    have qi := (hm.at (i := 1) rfl).cell
    have fi := (hm.at (i := 1) rfl).frozen
    have qo := (hm.at (i := 2) rfl).cell
    have fo := (hm.at (i := 2) rfl).frozen
    have qn := (hm.at (i := 3) rfl).cell
    have qx := hrx.cell
    dsimp only at qx
    have HO := Lib.hid ho
    have HMM := Lib.hid hm
    obtain ⟨v1, v2, hv⟩ := own_slice ho
    subst hv
    clear ho hm
    dsimp only
    by_cases hk : pre.length ≤ N
    · have hkI : ¬ (N : Int) < (pre.length : Int) := by omega
      have hlen : ((pre ++ [(⟨⟨(p : Int), xb, xcl⟩, hok⟩ : StpG StOk)]).length : Int) = (pre.length : Int) + 1 := by simp
      have hlenN : (pre ++ [(⟨⟨(p : Int), xb, xcl⟩, hok⟩ : StpG StOk)]).length = pre.length + 1 := by simp
      cases xcl with
      | true =>
        have HAP : Hid (cutP N img (pre ++ [⟨⟨(p : Int), xb, true⟩, hok⟩]) (pre.length + 1) = cutP N img pre pre.length) := Lib.hid (by rw [cutP_snoc]; unfold apS; rw [if_pos rfl])
        have hr1 := HMM.out.at (i := 1) rfl
        have hm5 := HMM.out.set 1 rfl 0 (.int .i64 ((pre.length : Int) + 1))
        have ho5 := own_set_ty (j := 0) (u := .int .i64 ((pre.length : Int) + 1)) HO.out hr1 (by decide)
        have t5 := KpT.setCell (n0 := w.heap.size) hr1 (by omega) (by decide) (by decide) 0 (.int .i64 ((pre.length : Int) + 1))
        clear hr1
        gi_wp2
        exact ⟨(KeepsOthers.setCell _ _ _).from _, t5, _, by rw [hlenN]; exact hm5, by rw [hlenN, HAP.out]; exact ho5, by rw [hlenN]; omega, by rw [hlenN, HAP.out]; exact hp2⟩
      | false =>
        by_cases hkN : pre.length < N
        · have hkNI : (pre.length : Int) < (N : Int) := by omega
          have HAP : Hid (cutP N img (pre ++ [⟨⟨(p : Int), xb, false⟩, hok⟩]) (pre.length + 1) = putL (cutP N img pre pre.length) p xb) := Lib.hid (by rw [cutP_snoc]; unfold apS; rw [if_neg (by simp), if_pos hkN]; rfl)
          have HLE : Hid ((cutP N img (pre ++ [⟨⟨(p : Int), xb, false⟩, hok⟩]) (pre.length + 1)).length ≤ 4096) := Lib.hid (by rw [cutP_snoc]; exact apS_len hok hp2)
          have CP := Lib.hid (put_any (.slice v1 (cutP N img pre pre.length).length v2) w5.heap.size (cutP N img pre pre.length) p xb W HO.out (Nat.le_trans hb53 (by have := HMM.out.lt (i := 2) rfl; omega)) (by omega) (by omega))
          skip
          gi_wp2
          refine ⟨trivial, ?_⟩
          refine (CallsIn.inRound l (callsIn_wide.2 CP.out)).mono ?_
          rintro e W3 ⟨v3, rfl, hown3, hg3, _⟩
          have hm3 := HMM.out.grown_ty HO.out hg3 hbase (by intro r hr; simp only [List.mem_cons, List.not_mem_nil, or_false] at hr; rcases hr with rfl | rfl | rfl | rfl <;> (dsimp only; decide))
          have k3 := KeepsOthers.of_own HO.out hg3
          have t3 := KpT.grown HO.out hg3 hbase HMM.out.bel.size (by decide) (by decide)
          clear qi fi qo fo qn qx CP
          have qi := (hm3.at (i := 1) rfl).cell
          have fi := (hm3.at (i := 1) rfl).frozen
          have qo := (hm3.at (i := 2) rfl).cell
          have fo := (hm3.at (i := 2) rfl).frozen
          obtain ⟨v4, v5, hv⟩ := own_slice hown3
          subst hv
          rw [← HAP.out] at hown3
          have hr2 := hm3.at (i := 2) rfl
          have hm4 := hm3.set 2 rfl 0 (.slice v4 (cutP N img (pre ++ [⟨⟨(p : Int), xb, false⟩, hok⟩]) (pre.length + 1)).length v5)
          have ho4 := own_set_ty (j := 0) (u := .slice v4 (cutP N img (pre ++ [⟨⟨(p : Int), xb, false⟩, hok⟩]) (pre.length + 1)).length v5) hown3 hr2 (by decide)
          have hr4 := hm4.at (i := 1) rfl
          have hm5 := hm4.set 1 rfl 0 (.int .i64 ((pre.length : Int) + 1))
          have ho5 := own_set_ty (j := 0) (u := .int .i64 ((pre.length : Int) + 1)) ho4 hr4 (by decide)
          have t5 := (t3.trans (KpT.setCell hr2 (by omega) (by decide) (by decide) 0 (.slice v4 (cutP N img (pre ++ [⟨⟨(p : Int), xb, false⟩, hok⟩]) (pre.length + 1)).length v5))).trans (KpT.setCell hr4 (by omega) (by decide) (by decide) 0 (.int .i64 ((pre.length : Int) + 1)))
          rw [← HAP.out]
          clear hm3 hr2 hm4 ho4 hr4 hown3 t3
          gi_wp2
          exact ⟨((k3.trans (KeepsOthers.setCell _ _ _)).trans (KeepsOthers.setCell _ _ _)).from _, t5, _, by rw [hlenN]; exact hm5, by rw [hlenN]; exact ho5, by rw [hlenN]; omega, by rw [hlenN]; exact HLE.out⟩
        · have hkNI : ¬ (pre.length : Int) < (N : Int) := by omega
          have HAP : Hid (cutP N img (pre ++ [⟨⟨(p : Int), xb, false⟩, hok⟩]) (pre.length + 1) = putL (cutP N img pre pre.length) p (⟨#[33]⟩ : ByteArray)) := Lib.hid (by rw [cutP_snoc]; unfold apS; rw [if_neg (by simp), if_neg hkN]; rfl)
          have HLE : Hid ((cutP N img (pre ++ [⟨⟨(p : Int), xb, false⟩, hok⟩]) (pre.length + 1)).length ≤ 4096) := Lib.hid (by rw [cutP_snoc]; exact apS_len hok hp2)
          have CP := Lib.hid (put_any (.slice v1 (cutP N img pre pre.length).length v2) w5.heap.size (cutP N img pre pre.length) p (⟨#[33]⟩ : ByteArray) W HO.out (Nat.le_trans hb53 (by have := HMM.out.lt (i := 2) rfl; omega)) (by omega) (by omega))
          skip
          gi_wp2
          refine ⟨trivial, ?_⟩
          refine (CallsIn.inRound l (callsIn_wide.2 CP.out)).mono ?_
          rintro e W3 ⟨v3, rfl, hown3, hg3, _⟩
          have hm3 := HMM.out.grown_ty HO.out hg3 hbase (by intro r hr; simp only [List.mem_cons, List.not_mem_nil, or_false] at hr; rcases hr with rfl | rfl | rfl | rfl <;> (dsimp only; decide))
          have k3 := KeepsOthers.of_own HO.out hg3
          have t3 := KpT.grown HO.out hg3 hbase HMM.out.bel.size (by decide) (by decide)
          clear qi fi qo fo qn qx CP
          have qi := (hm3.at (i := 1) rfl).cell
          have fi := (hm3.at (i := 1) rfl).frozen
          have qo := (hm3.at (i := 2) rfl).cell
          have fo := (hm3.at (i := 2) rfl).frozen
          obtain ⟨v4, v5, hv⟩ := own_slice hown3
          subst hv
          rw [← HAP.out] at hown3
          have hr2 := hm3.at (i := 2) rfl
          have hm4 := hm3.set 2 rfl 0 (.slice v4 (cutP N img (pre ++ [⟨⟨(p : Int), xb, false⟩, hok⟩]) (pre.length + 1)).length v5)
          have ho4 := own_set_ty (j := 0) (u := .slice v4 (cutP N img (pre ++ [⟨⟨(p : Int), xb, false⟩, hok⟩]) (pre.length + 1)).length v5) hown3 hr2 (by decide)
          have hr4 := hm4.at (i := 1) rfl
          have hm5 := hm4.set 1 rfl 0 (.int .i64 ((pre.length : Int) + 1))
          have ho5 := own_set_ty (j := 0) (u := .int .i64 ((pre.length : Int) + 1)) ho4 hr4 (by decide)
          have t5 := (t3.trans (KpT.setCell hr2 (by omega) (by decide) (by decide) 0 (.slice v4 (cutP N img (pre ++ [⟨⟨(p : Int), xb, false⟩, hok⟩]) (pre.length + 1)).length v5))).trans (KpT.setCell hr4 (by omega) (by decide) (by decide) 0 (.int .i64 ((pre.length : Int) + 1)))
          rw [← HAP.out]
          clear hm3 hr2 hm4 ho4 hr4 hown3 t3
          gi_wp2
          exact ⟨((k3.trans (KeepsOthers.setCell _ _ _)).trans (KeepsOthers.setCell _ _ _)).from _, t5, _, by rw [hlenN]; exact hm5, by rw [hlenN]; exact ho5, by rw [hlenN]; omega, by rw [hlenN]; exact HLE.out⟩
    · have hkI : (N : Int) < (pre.length : Int) := by omega
      have hpe : pre.length = N + 1 := by omega
      gi_wp2
      refine ⟨(KeepsOthers.refl _).from _, rfl, .slice v1 (cutP N img pre (N + 1)).length v2, ?_, ?_, by simp; omega⟩
      · have := HMM.out
        rw [hpe] at this
        exact this
      · have := HO.out
        rw [hpe] at this
        rw [cutP_keep (by omega)]
        exact this
  case done =>
    rintro D ys W hD rfl ⟨v, hm, ho, hp1, hp2⟩ hK
    have HF : Hid (cutP N img ys ys.length = (cutR img ws (N : Int)).1) := Lib.hid (by
      rw [HR.out]
      unfold cutP cutL
      rw [HYM.out, HYL.out]
      congr 1
      have h1 := HSS.out
      unfold nSt at h1
      have h2 := HYL.out
      omega)
    rw [HF.out] at ho
    obtain ⟨E1, hE1, hEnd⟩ := cut_end (D := D) HR.out hm ho hK (by omega) hbase
    subst hE1
    have q := (hm.at (i := 2) rfl).cell
    gi_wp2
    go_wp2_with fail
    refine ⟨by simp, .inl ⟨_, _, rfl, run_takeDeferred hK, ?_⟩⟩
    refine ⟨.tuple #[v, .int .i64 0], ?_, hEnd⟩
    simp [results, Try.f16, go_sem]
  case stop =>
    rintro D cd pre W hD hpre ⟨rfl, v, hm, ho, hp1⟩ hK
    have HF : Hid (cutP N img pre (N + 1) = (cutR img ws (N : Int)).1) := Lib.hid (by
      rw [HR.out]
      unfold cutP cutL
      have h1 := HSS.out
      unfold nSt at h1
      have h2 := HYL.out
      have h3 := hpre.length_le
      rw [cutK_pre (p := pre.map (·.1)) (steps := stepsL ws) (by rw [← HYM.out]; exact hpre.map _) _ (by rw [List.length_map]; omega)]
      congr 1
      omega)
    rw [HF.out] at ho
    obtain ⟨E1, hE1, hEnd⟩ := cut_end (D := D) HR.out hm ho hK (by omega) hbase
    subst hE1
    have q := (hm.at (i := 2) rfl).cell
    gi_wp2
    go_wp2_with fail
    refine ⟨by simp, .inl ⟨_, _, rfl, run_takeDeferred hK, ?_⟩⟩
    refine ⟨.tuple #[v, .int .i64 0], ?_, hEnd⟩
    simp [results, Try.f16, go_sem]

theorem cutOwn_any (A A' : Option Addr) (c c' : Nat) (img : Img) (ws : List Wr) (n : Int) (w : World) (hs : SlAt w w.heap.size A (strV img)) (h : WrAt w w.heap.size A' ws) (hi : img.length ≤ 1000000) (hw : ws.length ≤ 1000000) (hx : ∀ x ∈ ws, x.bl.length ≤ 1000000) (hS : nSt ws ≤ 1000000000000) :
    Calls Try.prog 16 #[.slice A img.length c, .slice A' ws.length c', .int .i64 n] w (CutOwn img ws n w) := by
  cases hv : validB img ws with
  | false => exact cut_bad A A' c c' img ws n w hs h hi hw hx hv
  | true =>
    by_cases hn : n < 0 ∨ (nSt ws : Int) < n
    · exact cut_range A A' c c' img ws n w hs h hi hw hx hS hv hn
    · obtain ⟨N, rfl⟩ : ∃ N : Nat, n = (N : Int) := ⟨n.toNat, by omega⟩
      exact cut_go A A' c c' img ws N w hs h hi hw hx hS hv (by omega)
theorem cut_any (A A' : Option Addr) (c c' : Nat) (img : Img) (ws : List Wr) (n : Int) (w : World) (hs : SlAt w w.heap.size A (strV img)) (h : WrAt w w.heap.size A' ws) (hi : img.length ≤ 1000000) (hw : ws.length ≤ 1000000) (hx : ∀ x ∈ ws, x.bl.length ≤ 1000000) (hS : nSt ws ≤ 1000000000000) :
    Calls Try.prog 16 #[.slice A img.length c, .slice A' ws.length c', .int .i64 n] w (CutRes img ws n w) :=
  (cutOwn_any A A' c c' img ws n w hs h hi hw hx hS).mono fun _ _ h => h.res
set_option maxHeartbeats 1000000 in
theorem recordOwn_any (A A' : Option Addr) (c c' : Nat) (img : Img) (ws : List Wr) (w : World) (hs : SlAt w w.heap.size A (strV img)) (h : WrAt w w.heap.size A' ws) (hi : img.length ≤ 1000000) (hw : ws.length ≤ 1000000) (hx : ∀ x ∈ ws, x.bl.length ≤ 1000000) (hS : nSt ws ≤ 1000000000000) :
    Calls Try.prog 14 #[.slice A img.length c, .slice A' ws.length c'] w (CutOwn img ws (nSt ws : Int) w) := by
  have CS := Lib.hid (steps_any A' c' ws w h hw hx hS)
  have CC := Lib.hid (fun w' (hb : Below w.heap.size w w') => cutOwn_any A A' c c' img ws (nSt ws : Int) w' ((hs.below hb).mono hb.size) ((h.below hb).mono hb.size) hi hw hx hS)
  unfold CutOwn at CC ⊢
  generalize cutR img ws (nSt ws : Int) = R at *
  generalize nSt ws = S at *
  generalize img.length = a at *
  generalize ws.length = b at *
  obtain ⟨out, E⟩ := R
  dsimp only at CC ⊢
  generalize out.length = o at *
  clear hs h
  go_enter Try.func14, Try.ntmps14
  go_wp2_with fail
  refine CS.out.mono ?_
  rintro e w1 ⟨rfl, hb1⟩
  go_wp2_with fail
  refine (CC.out _ hb1).mono ?_
  rintro e w2 ⟨hb2, A2, c2, rfl, hs2⟩
  have HS2 := Lib.hid hs2
  clear hs2
  go_wp2_with fail
  go_ret2
  exact ⟨hb1.trans (hb2.mono hb1.size), A2, c2, rfl, own_base HS2.out hb1.size⟩
theorem record_any (A A' : Option Addr) (c c' : Nat) (img : Img) (ws : List Wr) (w : World) (hs : SlAt w w.heap.size A (strV img)) (h : WrAt w w.heap.size A' ws) (hi : img.length ≤ 1000000) (hw : ws.length ≤ 1000000) (hx : ∀ x ∈ ws, x.bl.length ≤ 1000000) (hS : nSt ws ≤ 1000000000000) :
    Calls Try.prog 14 #[.slice A img.length c, .slice A' ws.length c'] w (CutRes img ws (nSt ws : Int) w) :=
  (recordOwn_any A A' c c' img ws w hs h hi hw hx hS).mono fun _ _ h => h.res
end Go.Proofs.Ytdmdfpdigoijoaa
