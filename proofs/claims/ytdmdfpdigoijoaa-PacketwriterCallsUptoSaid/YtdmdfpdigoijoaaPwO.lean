/-
  Chapter 52: Once of the program.
-/
import Derived.Test.YtdmdfpdigoijoaaPwK
namespace Go.Proofs.Ytdmdfpdigoijoaa
open Go.RowKit Go.Shelf
set_option linter.unusedVariables false
attribute [local go_sem] Oper.semAt_some

/-- Something is recorded at an address. -/
def hasB (out : Img) (a : Nat) : Bool := match out[a]? with | some b => !b.toList.isEmpty | none => false
/-- Step number i is a close, or its address is blank. -/
def freeK (M : Nat) (steps : List Stp) (img : Img) (i : Nat) : Bool := match steps[i]? with | some s => s.cl || !hasB (cutK M steps img i) s.pos.toNat | none => true
def onceB (img : Img) (ws : List Wr) : Bool := validB img ws && (List.range (nSt ws)).all (freeK (nSt ws) (stepsL ws) img)
theorem freeK_pre {M : Nat} {p steps : List Stp} {img : Img} (h : p <+: steps) {i : Nat} (hi : i < p.length) : freeK M p img i = freeK M steps img i := by
  have hk := cutK_pre (n := M) (img := img) h i (by omega)
  obtain ⟨t, rfl⟩ := h
  unfold freeK
  rw [List.getElem?_append_left hi, hk]
theorem all_range_succ (f : Nat → Bool) (k : Nat) : (List.range (k + 1)).all f = ((List.range k).all f && f k) := by simp [List.range_succ]
theorem all_range_congr {f g : Nat → Bool} {k : Nat} (h : ∀ i, i < k → f i = g i) : (List.range k).all f = (List.range k).all g := by
  induction k with
  | zero => rfl
  | succ k ih => rw [all_range_succ, all_range_succ, ih (fun i hi => h i (by omega)), h k (by omega)]
theorem all_range_no {f : Nat → Bool} {n k : Nat} (hk : k < n) (h : f k = false) : (List.range n).all f = false := by
  rw [List.all_eq_false]
  exact ⟨k, List.mem_range.2 hk, by rw [h]; simp⟩
def freeP (M : Nat) (img : Img) (pre : List (StpG StOk)) (k : Nat) : Bool := (List.range k).all (freeK M (pre.map (·.1)) img)
theorem freeP_snoc {M : Nat} {img : Img} {pre : List (StpG StOk)} {x : StpG StOk} : freeP M img (pre ++ [x]) (pre.length + 1) = (freeP M img pre pre.length && (x.1.cl || !hasB (cutP M img pre pre.length) x.1.pos.toNat)) := by
  unfold freeP
  rw [all_range_succ]
  congr 1
  · refine all_range_congr fun i hi => ?_
    rw [List.map_append]
    exact (freeK_pre ⟨_, rfl⟩ (by simpa using hi)).symm
  · unfold freeK cutP
    rw [List.map_append, List.map_cons, List.map_nil, List.getElem?_append_right (by simp)]
    simp only [List.length_map, Nat.sub_self, List.getElem?_cons_zero]
    rw [cutK_pre (p := pre.map (·.1)) (steps := pre.map (·.1) ++ [x.1]) ⟨_, rfl⟩ _ (by simp)]

set_option maxRecDepth 100000 in
set_option maxHeartbeats 1000000 in
theorem once_bad (A A' : Option Addr) (c c' : Nat) (img : Img) (ws : List Wr) (w : World) (hs : SlAt w w.heap.size A (strV img)) (h : WrAt w w.heap.size A' ws) (hi : img.length ≤ 1000000) (hw : ws.length ≤ 1000000) (hx : ∀ x ∈ ws, x.bl.length ≤ 1000000) (hv : validB img ws = false) :
    Calls Try.prog 20 #[.slice A img.length c, .slice A' ws.length c'] w fun e w' => e = .returned (.bool (onceB img ws)) ∧ Below w.heap.size w w' := by
  have HR : Hid (onceB img ws = false) := Lib.hid (by unfold onceB; rw [hv]; rfl)
  have CV := Lib.hid (fun w' (hb : Below w.heap.size w w') => valid_any A A' c c' img ws w' ((hs.below hb).mono hb.size) ((h.below hb).mono hb.size) hi hw hx)
  rw [hv] at CV
  rw [HR.out]
  have h0 := (St.start w).new (g := w.heap.size) rfl #[.bool false] 4
  generalize img.length = a at *
  generalize ws.length = b at *
  clear hs h hv HR
  have CV2 := Lib.hid (CV.out _ h0.bel)
  go_enter Try.func20, Try.ntmps20
  go_wp2_with fail
  refine CV2.out.mono ?_
  rintro e w1 ⟨rfl, hb1⟩
  have h1 := St.call hb1 h0
  have q := (h1.at (i := 0) rfl).cell
  have f := (h1.at (i := 0) rfl).frozen
  have h2 := h1.set 0 rfl 0 (.bool false)
  have q2 := (h2.at (i := 0) rfl).cell
  clear hb1 h0
  go_wp2_with fail
  refine bodyPost_ret (v := .bool false) (by simp [results, Try.results20, go_sem, q2]) rfl ⟨rfl, h2.bel⟩

abbrev onceRows (gr go gw : Nat) (A : Option Addr) (m c : Nat) (v : Value) : Rows := [(gw, 24, #[.slice A m c]), (go, 23, #[v]), (gr, 4, #[.bool false])]
def OnceI (w : World) (base gr go gw : Nat) (A : Option Addr) (m c M : Nat) (img : Img) (pre : List (StpG StOk)) (W : World) : Prop :=
  ∃ v, St w W (onceRows gr go gw A m c v) ∧ W.ownsRow base 9 1 v (cutP M img pre pre.length).length (strV (cutP M img pre pre.length)) ∧ (cutP M img pre pre.length).length ≤ 4096 ∧ freeP M img pre pre.length = true
def OnceX (w : World) (base gr go gw : Nat) (A : Option Addr) (m c M : Nat) (img : Img) (cd : Code) (pre : List (StpG StOk)) (W : World) : Prop :=
  cd = .ret ∧ ∃ v, St w W (onceRows gr go gw A m c v) ∧ freeP M img pre pre.length = false

set_option maxRecDepth 100000 in
set_option maxHeartbeats 8000000 in
theorem once_go (A A' : Option Addr) (c c' : Nat) (img : Img) (ws : List Wr) (w : World) (hs : SlAt w w.heap.size A (strV img)) (h : WrAt w w.heap.size A' ws) (hi : img.length ≤ 1000000) (hw : ws.length ≤ 1000000) (hx : ∀ x ∈ ws, x.bl.length ≤ 1000000) (hv : validB img ws = true) :
    Calls Try.prog 20 #[.slice A img.length c, .slice A' ws.length c'] w fun e w' => e = .returned (.bool (onceB img ws)) ∧ Below w.heap.size w w' := by
  have HR : Hid (onceB img ws = (List.range (nSt ws)).all (freeK (nSt ws) (stepsL ws) img)) := Lib.hid (by unfold onceB; rw [hv]; rfl)
  have hv' := hv
  unfold validB at hv'
  simp only [Bool.and_eq_true, decide_eq_true_eq] at hv'
  obtain ⟨hi4, _, _, hwo⟩ := hv'
  have HWO : Hid (ws.all wrOk = true) := hwo
  have CV := Lib.hid (fun w' (hb : Below w.heap.size w w') => valid_any A A' c c' img ws w' ((hs.below hb).mono hb.size) ((h.below hb).mono hb.size) hi hw hx)
  have CC := Lib.hid (fun w' (hb : Below w.heap.size w w') => clone_any A c img w' ((hs.below hb).mono hb.size) hi)
  have HW := Lib.hid h
  have HX := Lib.hid hx
  have HWL := Lib.hid hw
  rw [hv] at CV
  obtain ⟨a, ha⟩ : ∃ a, img.length = a := ⟨_, rfl⟩
  obtain ⟨m, hm⟩ : ∃ m, ws.length = m := ⟨_, rfl⟩
  obtain ⟨M, hSS⟩ : ∃ S, nSt ws = S := ⟨_, rfl⟩
  have HA := Lib.hid ha
  have HM := Lib.hid hm
  have HSS := Lib.hid hSS
  rw [ha] at CV CC hi4 ⊢
  rw [hm] at CV ⊢
  rw [hSS] at HR
  have h0 := (St.start w).new (g := w.heap.size) rfl #[.bool false] 4
  clear hs h hv hi hw hx ha hm hSS hwo
  refine (callsIn_wide (n := 5)).1 ?_
  refine callsIn_of_wp_marks Try.func20 rfl trivial ?_ rfl
  simp only [Try.ntmps20, List.size_toArray, List.length_cons, List.length_nil, Nat.reduceAdd, Nat.reduceSub, Array.replicate_succ, Array.replicate_zero, List.push_toArray, List.append_toArray, List.nil_append, List.cons_append]
  refine wpIn_wide.2 ?_
  have CV2 := Lib.hid (CV.out _ h0.bel)
  go_wp2_with fail
  refine CV2.out.mono ?_
  rintro e w1 ⟨rfl, hb1⟩
  have h1 := St.call hb1 h0
  clear hb1 h0 CV2
  have CC2 := Lib.hid (CC.out _ h1.bel)
  go_wp2_with fail
  refine CC2.out.mono ?_
  rintro e w3 ⟨v, rfl, hown3, hb3⟩
  have h3 := St.call hb3 h1
  have hbase : w.heap.size ≤ w1.heap.size := h1.bel.size
  have hb53 : w1.heap.size ≤ w3.heap.size := hb3.size
  clear hb3 CC2 h1 CC CV
  obtain ⟨vA, vc, hvv⟩ := own_slice hown3
  subst hvv
  have h4 := (h3.new (g := w3.heap.size) rfl #[.slice vA a vc] 23).new (g := w3.heap.size + 1) (by simp) #[.slice A' m c'] 24
  have hown4 := (hown3.alloc (.cells #[.slice vA a vc] 23)).alloc (.cells #[.slice A' m c'] 24)
  have hsz : ((w3.alloc (.cells #[.slice vA a vc] 23)).alloc (.cells #[.slice A' m c'] 24)).heap.size = w3.heap.size + 2 := by simp
  clear h3
  go_wp2_with fail
  refine (callsIn_wide.1 (steps_in Fence.wide 4 trivial rfl _ _ _ _)).mono ?_
  rintro e w' ⟨rfl, rfl⟩
  generalize (w3.alloc (.cells #[.slice vA a vc] 23)).alloc (.cells #[.slice A' m c'] 24) = W2 at *
  have hbox := h4.at (i := 0) rfl
  go_wp2_with fail
  refine (wpIn_wide (n := 5)).1 ?_
  obtain ⟨YS, hYS⟩ : ∃ YS, okY ws HWO.out = YS := ⟨_, rfl⟩
  have HYM : Hid (YS.map (·.1) = stepsL ws) := Lib.hid (by rw [← hYS]; exact okY_map ws HWO.out)
  have HYL : Hid (YS.length = M) := Lib.hid (by rw [← hYS, okY_length]; exact HSS.out)
  clear hYS
  refine wpIn_rangeFunc_ownH rfl (by omega) (gf := 78) (lb := #[.pointer (some ⟨w3.heap.size + 1, 0, none⟩)]) rfl trivial (enters_of Try.func78 (by kernel_rfl) rfl)
    (steps_stops (G := StOk) Fence.wide 4 trivial rfl (by omega) (w3.heap.size + 1) w.heap.size A' c' ws YS HYM.out HWL.out HX.out W2 (by rw [HM.out]; exact hbox) (HW.out.below h4.bel) h4.bel.size) KpT.trans (fun W l o o' hl ho hc _ => KpT.putObj (by omega) ho hc) (Below.refl _ _) (fun _ => rfl)
    (OnceI w w1.heap.size w.heap.size w3.heap.size (w3.heap.size + 1) A' m c' M img) (OnceX w w1.heap.size w.heap.size w3.heap.size (w3.heap.size + 1) A' m c' M img) ?hI ?hIx ?h0
    (fun x a' W => ∃ Bx, RowAt W Bx 101 #[.int .i64 x.1.pos, .string x.1.b, .bool x.1.cl] ∧ a' = { tmps := #[.slice A a c, .slice A' m c', undef, undef, .pointer (some ⟨w.heap.size, 0, none⟩), .pointer (some ⟨w3.heap.size, 0, none⟩), .pointer (some ⟨Bx, 0, none⟩), .slice A a c, .slice A' m c', .bool true, .bool false, .slice A a c, .slice vA a vc, .slice A' m c', .func (.func 78) #[] #[.pointer (some ⟨w3.heap.size + 1, 0, none⟩)], .agg #[.int .i64 x.1.pos, .string x.1.b, .bool x.1.cl], undef, undef, undef, undef, undef, undef, undef, undef, undef, undef, undef, undef, undef, undef, undef, undef, undef, undef, undef, undef, undef], defers := [] }) ?hAx ?assign ?body ?done ?stop
  case hI =>
    rintro pre A1 B1 row ⟨v, hm, ho, rest⟩ hg hr
    have hr' : ∀ r, row = some r → w.heap.size ≤ r ∧ ∃ o : Obj, A1.heap[r]? = some o ∧ o.isCells = false := fun r e => ⟨by have := (hr r e).1; omega, (hr r e).2⟩
    exact ⟨v, hm.keep_own hg hr', ownsRow_own ho hg hr', rest⟩
  case hIx =>
    rintro cd pre A1 B1 row ⟨hc, v, hm, rest⟩ hg hr
    have hr' : ∀ r, row = some r → w.heap.size ≤ r ∧ ∃ o : Obj, A1.heap[r]? = some o ∧ o.isCells = false := fun r e => ⟨by have := (hr r e).1; omega, (hr r e).2⟩
    exact ⟨hc, v, hm.keep_own hg hr', rest⟩
  case h0 => exact ⟨.slice vA a vc, h4, by show W2.ownsRow _ _ _ _ img.length (strV img); rw [HA.out]; exact hown4, by show img.length ≤ 4096; rw [HA.out]; exact hi4, rfl⟩
  case hAx =>
    rintro x a' _ A1 B1 row ⟨Bx, hrx, e⟩ hg hr
    exact ⟨Bx, rowAt_own (B := 0) hrx hg (fun r e => ⟨Nat.zero_le _, (hr r e).2⟩), e⟩
  case assign =>
    rintro l pre x W K ⟨v, hm, ho, rest⟩ hK
    dsimp only [encY]
    gi_wp2
    exact hK _ _ ((KeepsOthers.alloc _ _).from _) (KpT.alloc hm.bel.size _) ⟨v, hm.other _, ho.alloc _, rest⟩ ⟨W.heap.size, RowAt.new _ _ _, rfl⟩
  case body =>
    rintro l pre ⟨⟨xp, xb, xcl⟩, hok⟩ a' W hl _ ⟨v, hm, ho, hp2, hfr⟩ ⟨Bx, hrx, rfl⟩ hlt
    rw [HYL.out] at hlt
    obtain ⟨p, rfl⟩ : ∃ p : Nat, xp = (p : Int) := ⟨xp.toNat, by have := hok.1; dsimp only at this; omega⟩
    have hp : p < 4096 := by have := hok.2; dsimp only at this; omega
    have qo := (hm.at (i := 1) rfl).cell
    have fo := (hm.at (i := 1) rfl).frozen
    have qr := (hm.at (i := 2) rfl).cell
    have fr := (hm.at (i := 2) rfl).frozen
    have qx := hrx.cell
    dsimp only at qx
    have HO := Lib.hid ho
    have HMM := Lib.hid hm
    obtain ⟨v1, v2, hv⟩ := own_slice ho
    subst hv
    clear ho hm
    dsimp only
    have hlenN : (pre ++ [(⟨⟨(p : Int), xb, xcl⟩, hok⟩ : StpG StOk)]).length = pre.length + 1 := by simp
    cases xcl with
    | true =>
      have HAP : Hid (cutP M img (pre ++ [⟨⟨(p : Int), xb, true⟩, hok⟩]) (pre.length + 1) = cutP M img pre pre.length) := Lib.hid (by rw [cutP_snoc]; unfold apS; rw [if_pos rfl])
      have HFR : Hid (freeP M img (pre ++ [⟨⟨(p : Int), xb, true⟩, hok⟩]) (pre.length + 1) = true) := Lib.hid (by rw [freeP_snoc, hfr]; rfl)
      gi_wp2
      exact ⟨(KeepsOthers.refl _).from _, KpT.refl _ _, .slice v1 (cutP M img pre pre.length).length v2, HMM.out, by rw [hlenN, HAP.out]; exact HO.out, by rw [hlenN, HAP.out]; exact hp2, by rw [hlenN]; exact HFR.out⟩
    | false =>
      by_cases hpl : p < (cutP M img pre pre.length).length
      · have hplI : (p : Int) < ((cutP M img pre pre.length).length : Int) := by omega
        have hp0 : (0 : Int) ≤ (p : Int) := by omega
        obtain ⟨g, cap, hvv, hbg, hgl, hcp⟩ := own_form HO.out (by omega)
        injection hvv with hA4 _ hc4
        subst hA4 hc4
        obtain ⟨b, hb⟩ : ∃ b, (cutP M img pre pre.length)[p]? = some b := ⟨_, List.getElem?_eq_getElem hpl⟩
        have q0 := HO.out.cellAt p (by omega)
        rw [show (strV (cutP M img pre pre.length))[p]? = some (.string b) by unfold strV; rw [List.getElem?_map, hb]; rfl] at q0
        have HB : Hid (hasB (cutP M img pre pre.length) p = !b.toList.isEmpty) := Lib.hid (by unfold hasB; rw [hb])
        clear hb
        by_cases hbe : b.toList = []
        · have HHB : Hid (hasB (cutP M img pre pre.length) p = false) := Lib.hid (by rw [HB.out, hbe]; rfl)
          have hbB : (!b.toList.isEmpty) = false := by rw [hbe]; rfl
          clear hbe
          have HAP : Hid (cutP M img (pre ++ [⟨⟨(p : Int), xb, false⟩, hok⟩]) (pre.length + 1) = putL (cutP M img pre pre.length) p xb) := Lib.hid (by rw [cutP_snoc]; unfold apS; rw [if_neg (by simp), if_pos hlt]; rfl)
          have HLE : Hid ((cutP M img (pre ++ [⟨⟨(p : Int), xb, false⟩, hok⟩]) (pre.length + 1)).length ≤ 4096) := Lib.hid (by rw [cutP_snoc]; exact apS_len hok hp2)
          have HFR : Hid (freeP M img (pre ++ [⟨⟨(p : Int), xb, false⟩, hok⟩]) (pre.length + 1) = true) := Lib.hid (by rw [freeP_snoc, hfr]; show (true && (false || !hasB (cutP M img pre pre.length) p)) = true; rw [HHB.out]; rfl)
          have CP := Lib.hid (put_any (.slice (some ⟨g, 0, none⟩) (cutP M img pre pre.length).length v2) w1.heap.size (cutP M img pre pre.length) p xb W HO.out (Nat.le_trans hb53 (by have := HMM.out.lt (i := 1) rfl; omega)) (by omega) (by omega))
          gi_wp2
          refine ⟨trivial, ?_⟩
          refine (CallsIn.inRound l (callsIn_wide.2 CP.out)).mono ?_
          rintro e W3 ⟨v3, rfl, hown3, hg3, _⟩
          have hm3 := HMM.out.grown_ty HO.out hg3 hbase (by intro r hr; simp only [List.mem_cons, List.not_mem_nil, or_false] at hr; rcases hr with rfl | rfl | rfl <;> (dsimp only; decide))
          have k3 := KeepsOthers.of_own HO.out hg3
          have t3 := KpT.grown HO.out hg3 hbase HMM.out.bel.size (by decide) (by decide)
          have qo := (hm3.at (i := 1) rfl).cell
          have fo := (hm3.at (i := 1) rfl).frozen
          obtain ⟨v4, v5, hv⟩ := own_slice hown3
          subst hv
          rw [← HAP.out] at hown3
          have hr2 := hm3.at (i := 1) rfl
          have hm4 := hm3.set 1 rfl 0 (.slice v4 (cutP M img (pre ++ [⟨⟨(p : Int), xb, false⟩, hok⟩]) (pre.length + 1)).length v5)
          have ho4 := own_set_ty (j := 0) (u := .slice v4 (cutP M img (pre ++ [⟨⟨(p : Int), xb, false⟩, hok⟩]) (pre.length + 1)).length v5) hown3 hr2 (by decide)
          have t5 := t3.trans (KpT.setCell hr2 (by omega) (by decide) (by decide) 0 (.slice v4 (cutP M img (pre ++ [⟨⟨(p : Int), xb, false⟩, hok⟩]) (pre.length + 1)).length v5))
          rw [← HAP.out]
          clear hm3 hr2 hown3 t3
          gi_wp2
          exact ⟨(k3.trans (KeepsOthers.setCell _ _ _)).from _, t5, _, by exact hm4, by rw [hlenN]; exact ho4, by rw [hlenN]; exact HLE.out, by rw [hlenN]; exact HFR.out⟩
        · have hbB : (!b.toList.isEmpty) = true := by simp [hbe]
          have HFR : Hid (freeP M img (pre ++ [⟨⟨(p : Int), xb, false⟩, hok⟩]) (pre.length + 1) = false) := Lib.hid (by rw [freeP_snoc, hfr]; show (true && (false || !hasB (cutP M img pre pre.length) p)) = false; rw [HB.out, hbB]; rfl)
          have hm4 := HMM.out.set 2 rfl 0 (.bool false)
          gi_wp2
          exact ⟨(KeepsOthers.setCell _ _ _).from _, rfl, _, hm4, by rw [hlenN]; exact HFR.out⟩
      · have hplI : ¬ (p : Int) < ((cutP M img pre pre.length).length : Int) := by omega
        have HHB : Hid (hasB (cutP M img pre pre.length) p = false) := Lib.hid (by unfold hasB; rw [List.getElem?_eq_none (by omega)])
        · skip
          have HAP : Hid (cutP M img (pre ++ [⟨⟨(p : Int), xb, false⟩, hok⟩]) (pre.length + 1) = putL (cutP M img pre pre.length) p xb) := Lib.hid (by rw [cutP_snoc]; unfold apS; rw [if_neg (by simp), if_pos hlt]; rfl)
          have HLE : Hid ((cutP M img (pre ++ [⟨⟨(p : Int), xb, false⟩, hok⟩]) (pre.length + 1)).length ≤ 4096) := Lib.hid (by rw [cutP_snoc]; exact apS_len hok hp2)
          have HFR : Hid (freeP M img (pre ++ [⟨⟨(p : Int), xb, false⟩, hok⟩]) (pre.length + 1) = true) := Lib.hid (by rw [freeP_snoc, hfr]; show (true && (false || !hasB (cutP M img pre pre.length) p)) = true; rw [HHB.out]; rfl)
          have CP := Lib.hid (put_any (.slice v1 (cutP M img pre pre.length).length v2) w1.heap.size (cutP M img pre pre.length) p xb W HO.out (Nat.le_trans hb53 (by have := HMM.out.lt (i := 1) rfl; omega)) (by omega) (by omega))
          gi_wp2
          refine ⟨trivial, ?_⟩
          refine (CallsIn.inRound l (callsIn_wide.2 CP.out)).mono ?_
          rintro e W3 ⟨v3, rfl, hown3, hg3, _⟩
          have hm3 := HMM.out.grown_ty HO.out hg3 hbase (by intro r hr; simp only [List.mem_cons, List.not_mem_nil, or_false] at hr; rcases hr with rfl | rfl | rfl <;> (dsimp only; decide))
          have k3 := KeepsOthers.of_own HO.out hg3
          have t3 := KpT.grown HO.out hg3 hbase HMM.out.bel.size (by decide) (by decide)
          have qo := (hm3.at (i := 1) rfl).cell
          have fo := (hm3.at (i := 1) rfl).frozen
          obtain ⟨v4, v5, hv⟩ := own_slice hown3
          subst hv
          rw [← HAP.out] at hown3
          have hr2 := hm3.at (i := 1) rfl
          have hm4 := hm3.set 1 rfl 0 (.slice v4 (cutP M img (pre ++ [⟨⟨(p : Int), xb, false⟩, hok⟩]) (pre.length + 1)).length v5)
          have ho4 := own_set_ty (j := 0) (u := .slice v4 (cutP M img (pre ++ [⟨⟨(p : Int), xb, false⟩, hok⟩]) (pre.length + 1)).length v5) hown3 hr2 (by decide)
          have t5 := t3.trans (KpT.setCell hr2 (by omega) (by decide) (by decide) 0 (.slice v4 (cutP M img (pre ++ [⟨⟨(p : Int), xb, false⟩, hok⟩]) (pre.length + 1)).length v5))
          rw [← HAP.out]
          clear hm3 hr2 hown3 t3
          gi_wp2
          exact ⟨(k3.trans (KeepsOthers.setCell _ _ _)).from _, t5, _, by exact hm4, by rw [hlenN]; exact ho4, by rw [hlenN]; exact HLE.out, by rw [hlenN]; exact HFR.out⟩
  case done =>
    rintro D ys W hD rfl ⟨v, hm, ho, hp2, hfr⟩ hK
    have HF : Hid (onceB img ws = true) := Lib.hid (by
      rw [HR.out, ← HYM.out]
      have := hfr
      unfold freeP at this
      rw [HYL.out] at this
      exact this)
    have q := (hm.at (i := 2) rfl).cell
    have f := (hm.at (i := 2) rfl).frozen
    have hm4 := hm.set 2 rfl 0 (.bool true)
    have hK1 := (KeepsOthers.setCell W ⟨w.heap.size, 0, none⟩ (.bool true)).same D _ hK rfl
    gi_wp2
    go_wp2_with fail
    have hg := grownBy_putObj' (W.setCell ⟨w.heap.size, 0, none⟩ (.bool true)) D (.deferred none)
    have hc : ∀ q, some D = some q → w.heap.size ≤ q ∧ ∃ o : Obj, (W.setCell ⟨w.heap.size, 0, none⟩ (.bool true)).heap[q]? = some o ∧ o.isCells = false := fun q e => by cases e; exact ⟨by omega, _, hK1, rfl⟩
    have c1 := (rowAt_own (hm4.at (i := 2) rfl) hg hc).cell
    refine ⟨by simp, .inl ⟨_, _, rfl, run_takeDeferred hK1, ?_⟩⟩
    refine ⟨.bool true, ?_, ret_bool HF.out.symm, hm4.bel.grown hg hm4.bel.size (fun k e => (hc k e).1)⟩
    simp [results, Try.f20, go_sem, c1]
  case stop =>
    rintro D cd pre W hD hpre ⟨rfl, v, hm, hfr⟩ hK
    have HF : Hid (onceB img ws = false) := Lib.hid (by
      rw [HR.out]
      unfold freeP at hfr
      rw [← HYM.out, ← HYL.out]
      cases hall : (List.range YS.length).all (freeK YS.length (YS.map (·.1)) img) with
      | false => rfl
      | true =>
        rw [List.all_eq_false] at hfr
        obtain ⟨i, hi, hn⟩ := hfr
        rw [List.mem_range] at hi
        have hle := hpre.length_le
        have h1 := List.all_eq_true.1 hall i (List.mem_range.2 (by omega))
        rw [HYL.out] at h1
        rw [freeK_pre (hpre.map _) (by simpa using hi)] at hn
        exact absurd h1 hn)
    gi_wp2
    have hg := grownBy_putObj' W D (.deferred none)
    have hc : ∀ q, some D = some q → w.heap.size ≤ q ∧ ∃ o : Obj, W.heap[q]? = some o ∧ o.isCells = false := fun q e => by cases e; exact ⟨by omega, _, hK, rfl⟩
    have c1 := (rowAt_own (hm.at (i := 2) rfl) hg hc).cell
    go_wp2_with fail
    refine ⟨by simp, .inl ⟨_, _, rfl, run_takeDeferred hK, ?_⟩⟩
    refine ⟨.bool false, ?_, ret_bool HF.out.symm, hm.bel.grown hg hm.bel.size (fun k e => (hc k e).1)⟩
    simp [results, Try.f20, go_sem, c1]
theorem once_any (A A' : Option Addr) (c c' : Nat) (img : Img) (ws : List Wr) (w : World) (hs : SlAt w w.heap.size A (strV img)) (h : WrAt w w.heap.size A' ws) (hi : img.length ≤ 1000000) (hw : ws.length ≤ 1000000) (hx : ∀ x ∈ ws, x.bl.length ≤ 1000000) :
    Calls Try.prog 20 #[.slice A img.length c, .slice A' ws.length c'] w fun e w' => e = .returned (.bool (onceB img ws)) ∧ Below w.heap.size w w' := by
  cases hv : validB img ws with
  | false => exact once_bad A A' c c' img ws w hs h hi hw hx hv
  | true => exact once_go A A' c c' img ws w hs h hi hw hx hv
end Go.Proofs.Ytdmdfpdigoijoaa
