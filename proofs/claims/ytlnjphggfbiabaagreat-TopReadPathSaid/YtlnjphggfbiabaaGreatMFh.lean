/-
  productcode.Peel.
-/
import Derived.Test.YtlnjphggfbiabaaGreatMFe
import Derived.LoopN
namespace Go.Proofs.YtlnjphggfbiabaaGreat
open Go.RowKit Go.Maps Go.Shelf
set_option linter.unusedVariables false
attribute [local go_sem] Oper.semAt_some

/-! ### Plain words -/
def peelW (l wl : List Nat) : List Nat := if 1 ≤ (posN wl l wl.length).length ∧ (posN wl l wl.length).length ≤ 2 then relK wl l wl.length else l
def peelK (l : List Nat) (k : Nat) : List Nat := (wordsL.take k).foldl peelW l
def peelP (l : List Nat) : List Nat := wordsL.foldl peelW l
def peelN : Nat → List Nat → List Nat
  | 0, l => l
  | f + 1, l => if (peelP l).length < l.length then peelN f (peelP l) else l
def peelF (l : List Nat) : List Nat := peelN (l.length + 1) l
theorem posN_pos {wl l : List Nat} (h : 1 ≤ (posN wl l wl.length).length) : ∃ a, a ∈ wl ∧ a ∈ l := by
  obtain ⟨i, hi⟩ : ∃ i, i ∈ posN wl l wl.length := by
    cases hp : posN wl l wl.length with
    | nil => rw [hp] at h; simp at h
    | cons i r => exact ⟨i, List.mem_cons_self⟩
  obtain ⟨h1, h2⟩ := List.mem_filter.1 hi
  have h1 := List.mem_range.1 h1
  rw [List.getElem?_eq_getElem h1] at h2
  exact ⟨wl[i], List.getElem_mem h1, by simpa using h2⟩
theorem relK_lt {wl l : List Nat} (h : 1 ≤ (posN wl l wl.length).length) : (relK wl l wl.length).length < l.length := by
  obtain ⟨a, h1, h2⟩ := posN_pos h
  unfold relK
  rw [List.take_length]
  refine Nat.lt_of_le_of_ne (List.length_filter_le _ _) (fun e => ?_)
  have := (List.length_filter_eq_length_iff.1 e) a h2
  simp at this
  exact this h1
theorem peelW_sub (l wl : List Nat) : (peelW l wl).Sublist l := by
  unfold peelW
  split
  · exact List.filter_sublist
  · exact List.Sublist.refl _
theorem peelW_cases (l wl : List Nat) : ((1 ≤ (posN wl l wl.length).length ∧ (posN wl l wl.length).length ≤ 2) ∧ peelW l wl = relK wl l wl.length ∧ (peelW l wl).length < l.length) ∨ (¬ (1 ≤ (posN wl l wl.length).length ∧ (posN wl l wl.length).length ≤ 2) ∧ peelW l wl = l) := by
  by_cases h : 1 ≤ (posN wl l wl.length).length ∧ (posN wl l wl.length).length ≤ 2
  · have e : peelW l wl = relK wl l wl.length := if_pos h
    exact .inl ⟨h, e, by rw [e]; exact relK_lt h.1⟩
  · exact .inr ⟨h, if_neg h⟩
theorem peelK_succ {l wl : List Nat} {k : Nat} (h : wordsL[k]? = some wl) : peelK l (k + 1) = peelW (peelK l k) wl := by
  unfold peelK
  rw [List.take_add_one, h]
  simp
theorem peelK_zero (l : List Nat) : peelK l 0 = l := rfl
theorem peelK_full (l : List Nat) : peelK l 138 = peelP l := by
  unfold peelK peelP
  rw [List.take_of_length_le (by rw [wordsL_length]; exact Nat.le_refl _)]
theorem fold_sub (ws : List (List Nat)) : ∀ l, (ws.foldl peelW l).Sublist l := by
  induction ws with
  | nil => exact fun l => List.Sublist.refl _
  | cons w ws ih => exact fun l => (ih (peelW l w)).trans (peelW_sub l w)
theorem peelK_sub (l : List Nat) (k : Nat) : (peelK l k).Sublist l := fold_sub _ l
theorem peelP_sub (l : List Nat) : (peelP l).Sublist l := fold_sub _ l
theorem peelN_fuel : ∀ (f g : Nat) (l : List Nat), l.length < f → l.length < g → peelN f l = peelN g l
  | 0, _, _, h, _ => by omega
  | _ + 1, 0, _, _, h => by omega
  | f + 1, g + 1, l, h1, h2 => by
    rw [peelN, peelN]
    split
    · exact peelN_fuel f g (peelP l) (by omega) (by omega)
    · rfl
theorem peelF_step (l : List Nat) : peelF l = if (peelP l).length < l.length then peelF (peelP l) else l := by
  unfold peelF
  rw [peelN]
  split
  · exact peelN_fuel _ _ _ (by omega) (by omega)
  · rfl
theorem peelF_end {l : List Nat} (h : ¬ (peelP l).length < l.length) : peelF l = l ∧ peelP l = l :=
  ⟨by rw [peelF_step, if_neg h], (peelP_sub l).eq_of_length (Nat.le_antisymm (peelP_sub l).length_le (by omega))⟩
theorem peelF_go {l : List Nat} (h : (peelP l).length < l.length) : peelF l = peelF (peelP l) := by rw [peelF_step, if_pos h]
theorem peelN_sub : ∀ (f : Nat) (l : List Nat), (peelN f l).Sublist l
  | 0, l => List.Sublist.refl _
  | f + 1, l => by
    rw [peelN]
    split
    · exact (peelN_sub f _).trans (peelP_sub l)
    · exact List.Sublist.refl _
theorem peelF_sub (l : List Nat) : (peelF l).Sublist l := peelN_sub _ l
/-! ### The walk -/
def mapLen (w : World) (b : Nat) : Nat := match w.heap[b]? with | some (.map es _) => es.size | _ => 0
theorem SetAt.mapLen {w : World} {b n : Nat} {l : List Nat} (h : SetAt w b n l) : mapLen w b = l.length := by
  obtain ⟨D, ⟨es, clock, hb, F, hs, rfl⟩, h1, h2, h3, h4⟩ := h
  unfold Go.Proofs.YtlnjphggfbiabaaGreat.mapLen
  rw [hb, ← h3]
  simp [Maps.size, length_sorted]
def boxB (w : World) (p : Value) : Nat := match p with
  | .pointer (some a) => match w.cell? a with | some (.bool true) => 1 | _ => 0
  | _ => 0
theorem boxB_at {w : World} {g : Nat} {t : TypeId} {b : Bool} (h : RowAt w g t #[.bool b]) : boxB w (.pointer (some ⟨g, 0, none⟩)) = if b then 1 else 0 := by
  unfold boxB
  dsimp only
  rw [h.cell 0]
  cases b <;> rfl
theorem SetAt.own {W W' : World} {row : Option Nat} {b n B : Nat} {l : List Nat} (h : SetAt W b n l) (hg : W.grownBy W' row) (hr : ∀ r, row = some r → B ≤ r ∧ ∃ o : Obj, W.heap[r]? = some o ∧ o.isCells = false) (hb : b < B) : SetAt W' b n l := h.kept hg (fun e => by have := (hr b e.symm).1; omega)
/-- What holds between the rounds of a pass of Peel. -/
def PlI (w0 ws : World) (g8 ga b n : Nat) (l : List Nat) (_ : Unit) (pre : List Wd) (W : World) : Prop :=
  KeepsNM ws W ∧ Below w0.heap.size w0 W ∧ RowAt W g8 79 #[.map (some b)] ∧ RowAt W ga 4 #[.bool (decide ((peelK l pre.length).length < l.length))] ∧ SetAt W b n (peelK l pre.length) ∧ w0.heap.size ≤ b ∧ w0.heap.size ≤ ga ∧ g8 ≠ ga
theorem PlI.below {w0 ws A B : World} {g8 ga b n : Nat} {l : List Nat} {pre : List Wd} (h : PlI w0 ws g8 ga b n l () pre A) (hb : Below A.heap.size A B) : PlI w0 ws g8 ga b n l () pre B :=
  ⟨h.1.trans (KeepsNM.of (KeepsOthers.of_below hb)), h.2.1.trans (hb.mono h.2.1.size), h.2.2.1.below hb h.2.2.1.lt, h.2.2.2.1.below hb h.2.2.2.1.lt, h.2.2.2.2.1.below hb h.2.2.2.2.1.lt, h.2.2.2.2.2⟩
theorem PlI.own {w0 ws : World} {g8 ga b n B : Nat} {l : List Nat} (hs : ws.heap.size ≤ B) (hB : w0.heap.size ≤ B) (hb : b < B) (σ : Unit) : OwnFrom B (PlI w0 ws g8 ga b n l σ) := by
  rintro pre W W' row ⟨h0, h1, h2, h3, h4, h5⟩ hg hr
  refine ⟨⟨Nat.le_trans h0.size hg.size, fun k o hk ho hm => ?_⟩, h1.grown hg h1.size (fun k e => Nat.le_trans hB (hr k e).1), rowAt_own h2 hg hr, rowAt_own h3 hg hr, h4.own hg hr hb, h5⟩
  have h6 := h0.same k o hk ho hm
  refine (hg.block k (Array.getElem?_eq_some_iff.1 h6).1 (fun e => ?_)).trans h6
  have := (hr k e.symm).1
  have := (Array.getElem?_eq_some_iff.1 hk).1
  omega
theorem map_ne_row {W : World} {b n g : Nat} {l : List Nat} {t : TypeId} {cs : Array Value} (h : SetAt W b n l) (hr : RowAt W g t cs) : g ≠ b := fun e => by
  obtain ⟨D, ⟨es, clock, hb, _⟩, _⟩ := h
  unfold RowAt at hr
  rw [e, hb] at hr
  cases hr
theorem SetAt.cell {W : World} {b n g j : Nat} {l : List Nat} {t : TypeId} {cs : Array Value} (h : SetAt W b n l) (hr : RowAt W g t cs) (v : Value) : SetAt (W.setCell ⟨g, j, none⟩ v) b n l := by
  have hne := map_ne_row h hr
  obtain ⟨D, ho, hs⟩ := h
  exact ⟨D, ho.setCell (a := ⟨g, j, none⟩) (fun e => hne e.symm) v, hs⟩
/-! ### A loop whose rounds range over functions: the marks among the deferred calls -/
def marks (ds : List Nat) : List Deferred := ds.map fun D => { target := .collected D, args := #[] }
theorem leaves_marks {F : Fence} {n : Nat} {P : Program} {fn : Func} {tmps : Array Value} {R : Ending → World → Prop} {B : Nat} {w0 : World} (hR : ∀ W', Below B w0 W' → LeavesIn F n P fn tmps R [] .returning W') :
    ∀ (ds : List Nat) (W : World), ds.Nodup → (∀ D ∈ ds, B ≤ D ∧ W.heap[D]? = some (.deferred (some []))) → Below B w0 W → B ≤ W.heap.size → LeavesInM F n P fn tmps R (marks ds) .returning W
  | [], W, _, _, hb, _ => hR W hb
  | D :: ds, W, hn, hd, hb, hs => by
    obtain ⟨h1, h2⟩ := List.nodup_cons.1 hn
    obtain ⟨h3, h4⟩ := hd D List.mem_cons_self
    have hg := grownBy_putObj' W D (.deferred none)
    refine ⟨by simp, .inl ⟨D, _, rfl, run_takeDeferred h4, leaves_marks hR ds _ h2 (fun E hE => ?_) (hb.grown hg hs (fun k e => by cases e; exact h3)) (Nat.le_trans hs hg.size)⟩⟩
    obtain ⟨h5, h6⟩ := hd E (List.mem_cons_of_mem _ hE)
    exact ⟨h5, (World.putObj_heap_other (fun e => h1 (by rw [← e]; exact hE))).trans h6⟩
theorem rounds_st {P : Program} {σ : Type} {c : Code} {Q : Exit → Act → World → Prop} (A : σ → Act) (Inv : σ → World → Prop) (μ : σ → Nat)
    (step : ∀ s W (K : Act → World → Prop), Inv s W → (∀ s' W', Inv s' W' → μ s' < μ s → K (A s') W') → c.wp P (Exit.then K Q) (A s) W) : ∀ m s W, μ s < m → Inv s W → Code.rounds P c Q m (A s) W
  | 0, s, W, h, _ => by omega
  | m + 1, s, W, h, hi => by
    rw [rounds_succ]
    exact step s W _ hi (fun s' W' hi' hlt => rounds_st A Inv μ step m s' W' (by omega) hi')
structure PlS where
  T : Array Value
  ga : Nat
  ag : Bool
  cur : List Nat
  ds : List Nat
def PeelRes (er : List Nat) (w : World) (e : Ending) (w' : World) : Prop := Below w.heap.size w w' ∧ ∃ A c, e = .returned (.tuple #[.slice A (fltN (peelF er) er).length c, .int .i64 0])
set_option maxRecDepth 100000 in
set_option maxHeartbeats 8000000 in
theorem peel_any (er : List Nat) (A : Option Addr) (c : Nat) (w : World) (h : SlAt w w.heap.size A (posV er)) (hp : er.Pairwise (· < ·)) (hlt : ∀ a ∈ er, 12 ≤ a ∧ a < 2352) (hl : er.length ≤ 3000) :
    Calls Tryz.prog 16 #[.int .i64 0, .slice A er.length c] w (PeelRes er w) := by
  have HS := Lib.hid h
  have HLT := Lib.hid hlt
  have CF := Lib.hid (first_one w)
  have CS := Lib.hid (set_any er A c w h hp hlt hl)
  obtain ⟨m, hm⟩ : ∃ m, er.length = m := ⟨_, rfl⟩
  have HM := Lib.hid hm
  rw [hm] at hl CS ⊢
  clear h hp hlt hm
  refine (callsIn_wide (n := 5)).1 ?_
  refine callsIn_of_wp_marks Tryz.func16 rfl trivial ?_ rfl
  simp only [Tryz.ntmps16, List.size_toArray, List.length_cons, List.length_nil, Nat.reduceAdd, Nat.reduceSub, Array.replicate_succ, Array.replicate_zero, List.push_toArray, List.append_toArray, List.nil_append, List.cons_append]
  refine wpIn_wide.2 ?_
  go_wp2_with fail
  refine CF.out.mono ?_
  rintro e w1 ⟨rfl, rfl⟩
  go_wp2_with fail
  refine CS.out.mono ?_
  rintro e w1 ⟨hb1, b, hbw, rfl, hs1⟩
  have HB1 := Lib.hid hb1
  have HS1 := Lib.hid hs1
  have HBW := Lib.hid hbw
  clear CF CS hb1 hs1 hbw
  go_wp2_with fail
  have hst0 : Below w.heap.size w ((w1.alloc (.cells #[.map (some b)] 79)).alloc (.cells #[.bool true] 4)) := (HB1.out.alloc HB1.out.size _).alloc (by have := HB1.out.size; simp; omega) _
  have HST0 := Lib.hid hst0
  have HR0 := Lib.hid ((RowAt.new w1 79 #[.map (some b)]).alloc (.cells #[.bool true] 4))
  have HRA := Lib.hid (RowAt.new (w1.alloc (.cells #[.map (some b)] 79)) 4 #[.bool true])
  rw [World.size_alloc] at HRA
  have HSA : Hid (SetAt ((w1.alloc (.cells #[.map (some b)] 79)).alloc (.cells #[.bool true] 4)) b m er) := Lib.hid ((HS1.out.below ((Below.refl _ _).alloc (Nat.le_refl _) _) HS1.out.lt).below ((Below.refl _ _).alloc (Nat.le_refl _) _) (by have := HS1.out.lt; simp; omega))
  have HW1 := Lib.hid HB1.out.size
  generalize ((w1.alloc (.cells #[.map (some b)] 79)).alloc (.cells #[.bool true] 4)) = w2 at *
  generalize w1.heap.size = g8 at *
  clear hst0 HS1 HB1
  have HINIT := Lib.hid (And.intro HRA.out (And.intro HR0.out (And.intro HSA.out HST0.out)))
  clear HRA HR0 HSA HST0
  refine wp_loop_rounds (m + 3) ?_
  refine rounds_st (fun s : PlS => { tmps := s.T, defers := marks s.ds }) (fun s wr => (∃ u10 u11 u27 u28 u29 u30 u31 u32 u33 u34 u35 u36 u37 u38 u39 u40 u41 u42 u43 : Value, s.T = #[.int .i64 0, .slice A m c, undef, undef, .slice none 0 0, .int .i64 0, .int .i64 12, .bool true, .pointer (some ⟨g8, 0, none⟩), .pointer (some ⟨s.ga, 0, none⟩), u10, u11, .tuple #[.int .i64 12, .bool true], .int .i64 0, .tuple #[.int .i64 12, .bool true], .int .i64 12, .bool true, .bool true, .bool false, .tuple #[.map (some b), .bool true], .int .i64 12, .slice A m c, .tuple #[.map (some b), .bool true], .map (some b), .bool true, .bool true, .bool false, u27, u28, u29, u30, u31, u32, u33, u34, u35, u36, u37, u38, u39, u40, u41, u42, u43, undef, undef, undef, undef]) ∧
      RowAt wr s.ga 4 #[.bool s.ag] ∧ RowAt wr g8 79 #[.map (some b)] ∧ SetAt wr b m s.cur ∧ Below w.heap.size w wr ∧
      Hid (w.heap.size ≤ s.ga ∧ g8 ≠ s.ga ∧ s.cur.Sublist er ∧ (s.ag = true → peelF er = peelF s.cur) ∧ (s.ag = false → peelF er = s.cur)) ∧
      Hid (s.ds.Nodup ∧ ∀ D ∈ s.ds, w.heap.size ≤ D ∧ wr.heap[D]? = some (.deferred (some [])))) (fun s => if s.ag then s.cur.length + 1 else 0) ?step (m + 3) ⟨_, g8 + 1, true, er, []⟩ w2 (by show er.length + 1 < m + 3; rw [HM.out]; omega)
    ⟨⟨_, _, _, _, _, _, _, _, _, _, _, _, _, _, _, _, _, _, _, rfl⟩, HINIT.out.1, HINIT.out.2.1, HINIT.out.2.2.1, HINIT.out.2.2.2, Lib.hid ⟨by have := HW1.out; show w.heap.size ≤ g8 + 1; omega, by show g8 ≠ g8 + 1; omega, List.Sublist.refl _, fun _ => rfl, fun e => by cases e⟩, Lib.hid ⟨List.nodup_nil, fun D hD => (List.not_mem_nil hD).elim⟩⟩
  case step =>
    clear HINIT
    rintro ⟨T, ga, ag, cur, ds⟩ wr K ⟨⟨u10, u11, u27, u28, u29, u30, u31, u32, u33, u34, u35, u36, u37, u38, u39, u40, u41, u42, u43, hT⟩, hra, hr8, hsa, hbel, HH, HD⟩ hK
    dsimp only at hT hra hsa HH HD hK ⊢
    subst hT
    have HKK := Lib.hid hK
    have HRA := Lib.hid hra
    have HR8 := Lib.hid hr8
    have HSA := Lib.hid hsa
    have HB := Lib.hid hbel
    have qa := hra.cell
    have fa := hra.frozen
    generalize hds : marks ds = dsl at *
    have HDS := Lib.hid hds
    clear hK hds
    cases ag with
    | true =>
      go_wp2_with fail
      refine (words_any _).mono ?_
      rintro e w3 ⟨rfl, hw3⟩
      have H0 : Hid (PlI w w3 g8 ga b m cur () [] w3) := Lib.hid (by
        refine ⟨KeepsNM.refl _, ?_⟩
        rw [hw3]
        have hne := map_ne_row HSA.out HRA.out
        refine ⟨HB.out.setCell (p := ⟨ga, 0, none⟩) HH.out.1 _, HR8.out.far (p := ⟨ga, 0, none⟩) HH.out.2.1 _, ?_, HSA.out.cell HRA.out _, HBW.out, HH.out.1, HH.out.2.1⟩
        have h9 := HRA.out.set_ 0 (.bool false)
        rw [show decide ((peelK cur ([] : List Wd).length).length < cur.length) = false by simp [peelK_zero]]
        exact h9)
      have HD3 : Hid (ds.Nodup ∧ ∀ D ∈ ds, w.heap.size ≤ D ∧ w3.heap[D]? = some (.deferred (some []))) := Lib.hid ⟨HD.out.1, fun D hD => ⟨(HD.out.2 D hD).1, by rw [hw3]; exact (KeepsOthers.setCell wr ⟨ga, 0, none⟩ (.bool false)).same _ _ (HD.out.2 D hD).2 rfl⟩⟩
      clear hw3 qa fa hra hr8 hsa hbel HD
      go_wp2_with fail
      refine (wpIn_wide (n := 5)).1 ?_
      refine range_ownM rfl (by omega) (gf := 82) (lb := #[]) rfl trivial (enters_of Tryz.func82 (by kernel_rfl) rfl)
        (encs := Wd.enc) (fun _ => rfl) (I := PlI w w3 g8 ga b m cur) (Px := WdP) (words1_seq _ (fun pre A B h hb => h.below hb)).m (fun σ => PlI.own (Nat.le_refl _) H0.out.2.1.size H0.out.2.2.2.2.1.lt σ) (fun pre => WdP.own pre) H0.out
        (fun x => { tmps := #[.int .i64 0, .slice A m c, undef, undef, .slice none 0 0, .int .i64 0, .int .i64 12, .bool true, .pointer (some ⟨g8, 0, none⟩), .pointer (some ⟨ga, 0, none⟩), .slice x.A x.l.length x.c, u11, .tuple #[.int .i64 12, .bool true], .int .i64 0,
          .tuple #[.int .i64 12, .bool true], .int .i64 12, .bool true, .bool true, .bool false, .tuple #[.map (some b), .bool true], .int .i64 12, .slice A m c, .tuple #[.map (some b), .bool true], .map (some b), .bool true, .bool true, .bool false, .bool true,
          .func (.func 82) #[] #[], .slice x.A x.l.length x.c, u30, u31, u32, u33, u34, u35, u36, u37, u38, u39, u40, u41, u42, u43, undef, undef, undef, undef], defers := [] }) ?assign ?body ?done
      case assign =>
        rintro l ⟨xA, xc, xl⟩ W K hK
        dsimp only [Wd.enc] at hK ⊢
        gi_wp2
        exact hK
      case body =>
        rintro l σ pre ⟨xA, xc, xl⟩ W ⟨i0, i1, i2, i3, i4, i5, i6, i7⟩ ⟨hwo, hpm, hwl⟩
        dsimp only at hwo hwl ⊢
        obtain ⟨hwn, hwi⟩ := wordsL_in (List.mem_of_getElem? hwl)
        have HPK := Lib.hid (peelK_succ (l := cur) hwl)
        have HSB := Lib.hid (peelK_sub cur pre.length)
        obtain ⟨L, hL⟩ : ∃ L, peelK cur pre.length = L := ⟨_, rfl⟩
        have HLK := Lib.hid hL
        rw [hL] at i3 i4 HPK HSB
        have CPO := Lib.hid (positions_any xl L xA xc b m W (SlAt.of_own' hwo (Nat.le_refl _)) i4 (by omega) (fun a ha => by have := hwi a ha; omega))
        have HPC := Lib.hid (peelW_cases L xl)
        have HWI := Lib.hid hwi
        obtain ⟨n, hn⟩ : ∃ n, xl.length = n := ⟨_, rfl⟩
        have HN := Lib.hid hn
        rw [hn] at CPO HPC hwo hwn ⊢
        obtain ⟨np, hnp⟩ : ∃ np, (posN xl L n).length = np := ⟨_, rfl⟩
        rw [hnp] at CPO HPC
        have q8 := i2.cell
        have HO := Lib.hid hwo
        have I0 := Lib.hid i0
        have I1 := Lib.hid i1
        have I2 := Lib.hid i2
        have I3 := Lib.hid i3
        have I4 := Lib.hid i4
        have hn45 : n ≤ 45 := by omega
        clear hL hn hnp hwi hwl hwo i0 i1 i2 i3 i4 hpm
        gi_upto_region 12 with fail
        refine wpIn_list_of (by kernel_rfl) (by rintro ⟨a, w, h⟩; exact h) ?_
        go_wp2_with fail
        refine CPO.out.mono ?_
        rintro e w4 ⟨hb4, A4, c4, rfl, ho4⟩
        have HB4 := Lib.hid hb4
        clear CPO ho4 q8 hb4
        have HLN : Hid ((pre ++ [(⟨xA, xc, xl⟩ : Wd)]).length = pre.length + 1) := Lib.hid (by rw [List.length_append]; rfl)
        rcases HPC.out with ⟨⟨hp1, hp2⟩, hpe, hpl⟩ | ⟨hpn, hpe⟩
        · have hpI1 : (1 : Int) ≤ (np : Int) := by omega
          have hpI2 : (np : Int) ≤ 2 := by omega
          have HPE := Lib.hid hpe
          have HPL := Lib.hid hpl
          clear HPC hpe hpl
          go_wp2_with fail
          gi_upto_region 14 with fail
          refine wpIn_list_of (by kernel_rfl) (by rintro ⟨a, w, h⟩; exact h) ?_
          have q8 := (I2.out.below HB4.out I2.out.lt).cell
          have CR := Lib.hid (release_any xl L xA xc b m w4 (by rw [HN.out]; exact own_all HO.out HB4.out) (I4.out.below HB4.out I4.out.lt) (by rw [HN.out]; omega) (fun a ha => by have := HWI.out a ha; omega))
          rw [HN.out] at CR
          go_wp2_with fail
          refine CR.out.mono ?_
          rintro e w5 ⟨rfl, hg5, hs5⟩
          have HG5 := Lib.hid hg5
          have HS5 := Lib.hid hs5
          have hnb := map_ne_row I4.out I3.out
          have hnb8 := map_ne_row I4.out I2.out
          have HR3 := Lib.hid ((I3.out.below HB4.out I3.out.lt).grown hg5 (by simpa using hnb))
          have HR2 := Lib.hid ((I2.out.below HB4.out I2.out.lt).grown hg5 (by simpa using hnb8))
          have qa := HR3.out.cell
          have fa := HR3.out.frozen
          clear hg5 hs5 CR q8
          go_wp2_with fail
          gi_wp2
          have hk : KeepsNM W (w5.setCell ⟨ga, 0, none⟩ (.bool true)) := ((KeepsNM.of (KeepsOthers.of_below HB4.out)).trans (KeepsNM.map (I4.out.below HB4.out I4.out.lt) HG5.out)).trans (KeepsNM.of (KeepsOthers.setCell _ _ _))
          have hlt2 : decide ((peelK cur (pre ++ [(⟨xA, xc, xl⟩ : Wd)]).length).length < cur.length) = true := by
            rw [HLN.out, HPK.out]
            have := HPL.out
            have := HSB.out.length_le
            simp; omega
          have heq : peelK cur (pre ++ [(⟨xA, xc, xl⟩ : Wd)]).length = relK xl L n := by rw [HLN.out, HPK.out, HPE.out]
          refine ⟨hk, I0.out.trans hk, ?_, HR2.out.far (p := ⟨ga, 0, none⟩) i7 _, ?_, ?_, i5, i6, i7⟩
          · exact ((I1.out.trans (HB4.out.mono I1.out.size)).grown HG5.out (Nat.le_trans I1.out.size HB4.out.size) (fun k e => by cases e; exact i5)).setCell (p := ⟨ga, 0, none⟩) i6 _
          · rw [hlt2]
            exact HR3.out.set_ 0 (.bool true)
          · rw [heq]
            exact HS5.out.cell HR3.out _
        · have hpn2 : np = 0 ∨ 2 < np := by omega
          have HPE := Lib.hid hpe
          clear HPC hpe hpn
          have hfin : ∀ W4 : World, Below W.heap.size W W4 → KeepsNM W W4 ∧ PlI w w3 g8 ga b m cur () (pre ++ [(⟨xA, xc, xl⟩ : Wd)]) W4 := fun W4 hb => by
            refine ⟨KeepsNM.of (KeepsOthers.of_below hb), I0.out.trans (KeepsNM.of (KeepsOthers.of_below hb)), I1.out.trans (hb.mono I1.out.size), I2.out.below hb I2.out.lt, ?_, ?_, i5, i6, i7⟩
            · rw [HLN.out, HPK.out, HPE.out]; exact I3.out.below hb I3.out.lt
            · rw [HLN.out, HPK.out, HPE.out]; exact I4.out.below hb I4.out.lt
          have HFIN := Lib.hid hfin
          clear hfin
          rcases hpn2 with h0 | h2
          · subst h0
            go_wp2_with fail
            gi_wp2
            exact HFIN.out _ HB4.out
          · have h2I : ¬ (np : Int) ≤ 2 := by omega
            have h1I : (1 : Int) ≤ (np : Int) := by omega
            go_wp2_with fail
            gi_wp2
            exact HFIN.out _ HB4.out
      case done =>
        rintro D σ xs W hD hS ⟨i0, i1, i2, i3, i4, i5, i6, i7⟩ hKD
        have hxl : xs.length = 138 := by
          have := congrArg List.length (show xs.map (·.l) = wordsL from hS)
          rw [List.length_map, wordsL_length] at this
          exact this
        rw [hxl, peelK_full] at i3 i4
        have qa := i3.cell
        have HI0 := Lib.hid i0
        have HI1 := Lib.hid i1
        have HI2 := Lib.hid i2
        have HI3 := Lib.hid i3
        have HI4 := Lib.hid i4
        have HDD : Hid ((D :: ds).Nodup ∧ ∀ E ∈ D :: ds, w.heap.size ≤ E ∧ W.heap[E]? = some (.deferred (some []))) := Lib.hid ⟨List.nodup_cons.2 ⟨fun hin => by
          have h1 := (Array.getElem?_eq_some_iff.1 (HD3.out.2 D hin).2).1
          omega, HD3.out.1⟩, fun E hE => by
          rcases List.mem_cons.1 hE with rfl | hE
          · exact ⟨Nat.le_trans H0.out.2.1.size hD, hKD⟩
          · exact ⟨(HD3.out.2 E hE).1, i0.same _ _ (HD3.out.2 E hE).2 rfl (fun _ _ e => by cases e)⟩⟩
        have HPS := Lib.hid (peelP_sub cur)
        have hW := i1.size
        obtain ⟨ag2, hag2⟩ : ∃ ag2, decide ((peelP cur).length < cur.length) = ag2 := ⟨_, rfl⟩
        have HAG := Lib.hid hag2
        rw [hag2] at qa HI3
        clear i0 i1 i2 i3 i4 hS hKD hxl hag2
        gi_wp2
        go_wp2_with fail
        obtain ⟨S, hS⟩ : ∃ S : PlS, S = ⟨#[.int .i64 0, .slice A m c, undef, undef, .slice none 0 0, .int .i64 0, .int .i64 12, .bool true, .pointer (some ⟨g8, 0, none⟩), .pointer (some ⟨W.heap.size, 0, none⟩), u10, u11, .tuple #[.int .i64 12, .bool true], .int .i64 0, .tuple #[.int .i64 12, .bool true], .int .i64 12, .bool true, .bool true, .bool false, .tuple #[.map (some b), .bool true], .int .i64 12, .slice A m c, .tuple #[.map (some b), .bool true], .map (some b), .bool true, .bool true, .bool false, .bool true, .func (.func 82) #[] #[], u29, u30, u31, u32, u33, u34, u35, u36, u37, u38, u39, u40, u41, u42, .bool ag2, undef, undef, undef, undef], W.heap.size, ag2, peelP cur, D :: ds⟩ := ⟨_, rfl⟩
        have f1 : ∃ u10 u11 u27 u28 u29 u30 u31 u32 u33 u34 u35 u36 u37 u38 u39 u40 u41 u42 u43 : Value, S.T = #[.int .i64 0, .slice A m c, undef, undef, .slice none 0 0, .int .i64 0, .int .i64 12, .bool true, .pointer (some ⟨g8, 0, none⟩), .pointer (some ⟨S.ga, 0, none⟩), u10, u11, .tuple #[.int .i64 12, .bool true], .int .i64 0, .tuple #[.int .i64 12, .bool true], .int .i64 12, .bool true, .bool true, .bool false, .tuple #[.map (some b), .bool true], .int .i64 12, .slice A m c, .tuple #[.map (some b), .bool true], .map (some b), .bool true, .bool true, .bool false, u27, u28, u29, u30, u31, u32, u33, u34, u35, u36, u37, u38, u39, u40, u41, u42, u43, undef, undef, undef, undef] := by
          rw [hS]
          exact ⟨u10, u11, .bool true, .func (.func 82) #[] #[], u29, u30, u31, u32, u33, u34, u35, u36, u37, u38, u39, u40, u41, u42, .bool ag2, rfl⟩
        have f2 : RowAt (W.alloc (.cells #[.bool ag2] 4)) S.ga 4 #[.bool S.ag] := by rw [hS]; dsimp only; exact RowAt.new _ _ _
        have f3 := HI2.out.alloc (.cells #[.bool ag2] 4)
        have f4 : SetAt (W.alloc (.cells #[.bool ag2] 4)) b m S.cur := by rw [hS]; dsimp only; exact HI4.out.below ((Below.refl _ _).alloc (Nat.le_refl _) _) HI4.out.lt
        have f5 := HI1.out.alloc hW (.cells #[.bool ag2] 4)
        have f6 : w.heap.size ≤ S.ga ∧ g8 ≠ S.ga ∧ S.cur.Sublist er ∧ (S.ag = true → peelF er = peelF S.cur) ∧ (S.ag = false → peelF er = S.cur) := by
          rw [hS]
          dsimp only
          have h1 := HAG.out
          have h2 := HH.out.2.2.2.1 (by first | rfl | trivial)
          refine ⟨hW, by have := HI2.out.lt; omega, HPS.out.trans HH.out.2.2.1, fun e => ?_, fun e => ?_⟩
          · rw [h2]
            rw [e] at h1
            exact peelF_go (by simpa using h1)
          · rw [h2]
            rw [e] at h1
            obtain ⟨h3, h4⟩ := peelF_end (l := cur) (by simpa using h1)
            rw [h3, h4]
        have f7 : S.ds.Nodup ∧ ∀ E ∈ S.ds, w.heap.size ≤ E ∧ (W.alloc (.cells #[.bool ag2] 4)).heap[E]? = some (.deferred (some [])) := by
          rw [hS]
          dsimp only
          exact ⟨HDD.out.1, fun E hE => ⟨(HDD.out.2 E hE).1, (Below.heap_alloc W _ E (Array.getElem?_eq_some_iff.1 (HDD.out.2 E hE).2).1).trans (HDD.out.2 E hE).2⟩⟩
        have f8 : (if S.ag = true then S.cur.length + 1 else 0) < cur.length + 1 := by
          rw [hS]
          dsimp only
          have h1 := HAG.out
          cases ag2 with
          | true =>
            rw [if_pos rfl]
            have : (peelP cur).length < cur.length := by simpa using h1
            omega
          | false => rw [if_neg (by decide)]; omega
        have h9 := HKK.out S (W.alloc (.cells #[.bool ag2] 4)) ⟨f1, f2, f3, f4, f5, Lib.hid f6, Lib.hid f7⟩ f8
        rw [← HDS.out]
        rw [hS] at h9
        exact h9
    | false =>
      have CC := Lib.hid (clone29_any A c er wr (HS.out.below hbel |>.mono hbel.size) (by rw [HM.out]; omega))
      have HLE : Hid (∀ a ∈ er, a ≤ 1000000) := Lib.hid (fun a ha => by have := HLT.out a ha; omega)
      rw [HM.out] at CC
      clear hra hr8 hsa hbel
      go_wp2_with fail
      refine CC.out.mono ?_
      rintro e w3 ⟨hb3, A3, c3, rfl, ho3⟩
      have CD := Lib.hid (delfunc_any A3 c3 g8 b m wr.heap.size cur er w3 (by rw [HM.out]; exact ho3) (HR8.out.below hb3 HR8.out.lt) (HSA.out.below hb3 HSA.out.lt) (by rw [HM.out]; omega) HLE.out HR8.out.lt HSA.out.lt)
      rw [HM.out] at CD
      have HB3 := Lib.hid (HB.out.trans (hb3.mono HB.out.size))
      have HD3 : Hid (ds.Nodup ∧ ∀ D ∈ ds, w.heap.size ≤ D ∧ w3.heap[D]? = some (.deferred (some []))) := Lib.hid ⟨HD.out.1, fun D hD => ⟨(HD.out.2 D hD).1, (KeepsOthers.of_below hb3).same _ _ (HD.out.2 D hD).2 rfl⟩⟩
      have HZ := Lib.hid hb3.size
      clear hb3 ho3 CC
      go_wp2_with fail
      refine CD.out.mono ?_
      rintro e w4 ⟨hb4, A4, c4, rfl⟩
      have HB4 : Hid (Below w.heap.size w w4) := Lib.hid (HB3.out.trans (hb4.mono HB.out.size))
      have HD4 : Hid (ds.Nodup ∧ ∀ D ∈ ds, w.heap.size ≤ D ∧ w4.heap[D]? = some (.deferred (some []))) := Lib.hid ⟨HD.out.1, fun D hD => ⟨(HD.out.2 D hD).1, (hb4.block D (Array.getElem?_eq_some_iff.1 (HD.out.2 D hD).2).1).trans (HD3.out.2 D hD).2⟩⟩
      have HFN : Hid (peelF er = cur) := Lib.hid (HH.out.2.2.2.2 (by first | rfl | trivial))
      clear hb4 CD HD HD3
      obtain ⟨r, hr⟩ : ∃ r, (fltN cur er).length = r := ⟨_, rfl⟩
      have HR := Lib.hid hr
      rw [hr]
      clear hr
      go_wp2_with fail
      rw [← HDS.out]
      refine leaves_marks (B := w.heap.size) (w0 := w) (fun W' hb => ⟨.tuple #[.slice A4 r c4, .int .i64 0], ?_, hb, A4, c4, ?_⟩) ds w4 HD4.out.1 HD4.out.2 HB4.out HB4.out.size
      · simp [results, Tryz.f16, go_sem]
      · rw [HFN.out, HR.out]
end Go.Proofs.YtlnjphggfbiabaaGreat
