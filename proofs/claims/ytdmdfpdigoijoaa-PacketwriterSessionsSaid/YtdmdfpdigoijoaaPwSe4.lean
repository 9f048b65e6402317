/-
  Chapter 52: sessions: Execute.
-/
import Derived.Test.YtdmdfpdigoijoaaPwSe3
import Derived.Sort.CutIn
namespace Go.Proofs.Ytdmdfpdigoijoaa
open Go.RowKit Go.Shelf
set_option linter.unusedVariables false
attribute [local go_sem] Oper.semAt_some

def sesP (st ct : Int) (S : List Ses) (pre : List (StpG StOk)) (k : Nat) : List Ses := sesK st ct (pre.map (·.1)) S k
theorem sesP_snoc {st ct : Int} {S : List Ses} {pre : List (StpG StOk)} {x : StpG StOk} : sesP st ct S (pre ++ [x]) (pre.length + 1) = if x.1.cl then sesStep st ct (sesP st ct S pre pre.length) else sesP st ct S pre pre.length := by
  unfold sesP
  rw [List.map_append, List.map_cons, List.map_nil, sesK_succ (s := x.1) (by rw [List.getElem?_append_right (by simp)]; simp)]
  rw [sesK_pre (p := pre.map (·.1)) ⟨[x.1], rfl⟩ pre.length (by simp)]
theorem sesP_keep {st ct : Int} {S : List Ses} {pre : List (StpG StOk)} {x : StpG StOk} {k : Nat} (hk : k ≤ pre.length) : sesP st ct S (pre ++ [x]) k = sesP st ct S pre k := by
  unfold sesP
  rw [List.map_append]
  exact (sesK_pre ⟨_, rfl⟩ _ (by simpa using hk)).symm
abbrev exeRows (B gs : Nat) (st ct : Int) (A' A A2 : Option Addr) (m c' li c ls c2 : Nat) (N k : Nat) (v : Value) : Rows :=
  [(gs + 1 + 1, 24, #[.slice A' m c']), (gs + 1, 3, #[.int .i64 (k : Int)]), (gs, 53, #[v]), (B + 1 + 1 + 1, 55, #[.slice none 0 0, .slice none 0 0]), (B + 1 + 1, 3, #[.int .i64 (N : Int)]), (B + 1, 57, #[.int .i64 st, .int .i64 ct]), (B, 55, #[.slice A li c, .slice A2 ls c2])]
theorem exeRows_ty {B gs : Nat} {st ct : Int} {A' A A2 : Option Addr} {m c' li c ls c2 N k : Nat} {v : Value} : ∀ r ∈ exeRows B gs st ct A' A A2 m c' li c ls c2 N k v, r.2.1 ≠ 65 := by
  intro r hr
  simp only [List.mem_cons, List.not_mem_nil, or_false] at hr
  rcases hr with rfl | rfl | rfl | rfl | rfl | rfl | rfl <;> (dsimp only; decide)
/-- Between two rounds. -/
def ExeI (w : World) (base gs : Nat) (st ct : Int) (A' A A2 A1 : Option Addr) (m c' li c ls c2 : Nat) (N : Nat) (S : List Ses) (X : Img) (pre : List (StpG StOk)) (W : World) : Prop :=
  ∃ v, St w W (exeRows w.heap.size gs st ct A' A A2 m c' li c ls c2 N pre.length v) ∧ W.ownsRow base 65 3 v (sesP st ct S pre pre.length).length (flat encSe (sesP st ct S pre pre.length)) ∧ pre.length ≤ N ∧ SlAt W base A1 (strV X)
/-- The loop has been left. -/
def ExeX (w : World) (base gs : Nat) (st ct : Int) (A' A A2 A1 : Option Addr) (m c' li c ls c2 : Nat) (N : Nat) (S : List Ses) (X : Img) (cd : Code) (pre : List (StpG StOk)) (W : World) : Prop :=
  cd = .exit 0 ∧ ∃ v, St w W (exeRows w.heap.size gs st ct A' A A2 m c' li c ls c2 N N v) ∧ W.ownsRow base 65 3 v (sesP st ct S pre N).length (flat encSe (sesP st ct S pre N)) ∧ pre.length = N + 1 ∧ SlAt W base A1 (strV X)
set_option maxRecDepth 100000 in
set_option maxHeartbeats 4000000 in
theorem exec_go (A A' A2 : Option Addr) (c c' c2 : Nat) (img : Img) (S : List Ses) (ws : List Wr) (st ct : Int) (N : Nat) (w : World) (hs : SlAt w w.heap.size A (strV img)) (h2 : SlAt w w.heap.size A2 (flat encSe S)) (h : WrAt w w.heap.size A' ws) (hi : img.length ≤ 1000000) (hw : ws.length ≤ 1000000) (hx : ∀ x ∈ ws, x.bl.length ≤ 1000000) (hS : nSt ws ≤ 1000000) (hl : S.length ≤ 1000)
    (hv : validB img ws = true) (hn : N ≤ nSt ws) :
    Calls Try.prog 31 #[.agg #[.slice A img.length c, .slice A2 S.length c2], .agg #[.int .i64 st, .int .i64 ct], .slice A' ws.length c', .int .i64 (N : Int)] w (ExeRes (exeR img ws (N : Int) st ct S) w) := by
  have HA : Hid (Arg w A A' img ws) := Lib.hid ⟨hs, h⟩
  have HS2 := Lib.hid h2
  have HWO : Hid (ws.all wrOk = true) := Lib.hid (valid_parts hv).2.2.2
  have HR : Hid (cutR img ws (N : Int) = (cutL N (stepsL ws) img, 0)) := Lib.hid (cutR_okT hv hn)
  have CC := Lib.hid (fun w s h => cut_any A A' c c' img ws (N : Int) w s h hi hw hx (by omega))
  have CS := Lib.hid (fun w h => clones_any A2 c2 S w h (by omega))
  have HWL := Lib.hid hw
  have HX := Lib.hid hx
  have HSS := Lib.hid hS
  have HNN := Lib.hid hn
  obtain ⟨li, hli⟩ : ∃ li, img.length = li := ⟨_, rfl⟩
  obtain ⟨m, hm⟩ : ∃ m, ws.length = m := ⟨_, rfl⟩
  obtain ⟨ls, hls⟩ : ∃ ls, S.length = ls := ⟨_, rfl⟩
  have HM := Lib.hid hm
  have HLS := Lib.hid hls
  rw [hli, hm] at CC
  rw [hls] at CS hl
  rw [hli, hm, hls]
  have hN6 : N ≤ 1000000 := by omega
  clear hs h2 h hi hw hx hS hli hm hls hv hn
  have HSt := Lib.hid (((((St.start w).new (g := w.heap.size) rfl #[.slice A li c, .slice A2 ls c2] 55).new (g := w.heap.size + 1) (by simp) #[.int .i64 st, .int .i64 ct] 57).new (g := w.heap.size + 1 + 1) (by simp) #[.int .i64 (N : Int)] 3).new (g := w.heap.size + 1 + 1 + 1) (by simp) #[.slice none 0 0, .slice none 0 0] 55)
  refine (callsIn_wide (n := 5)).1 ?_
  refine callsIn_of_wp_marks Try.func31 rfl trivial ?_ rfl
  simp only [Try.ntmps31, List.size_toArray, List.length_cons, List.length_nil, Nat.reduceAdd, Nat.reduceSub, Array.replicate_succ, Array.replicate_zero, List.push_toArray, List.append_toArray, List.nil_append, List.cons_append]
  refine wpIn_wide.2 ?_
  have q0 := (HSt.out.at (i := 3) rfl).cell
  have q2 := (HSt.out.at (i := 1) rfl).cell
  go_wp2_with fail
  refine (CC.out _ (HA.out.below HSt.out.bel).s (HA.out.below HSt.out.bel).t).mono ?_
  rintro e w1 ⟨hb1, A1, c1, rfl, hs1⟩
  rw [HR.out] at hs1 ⊢
  obtain ⟨X, hX⟩ : ∃ X, cutL N (stepsL ws) img = X := ⟨_, rfl⟩
  have HXX := Lib.hid hX
  rw [hX] at hs1 ⊢
  have HS1 : Hid (SlAt w1 w1.heap.size A1 (strV X)) := Lib.hid hs1
  obtain ⟨lr, hlr⟩ : ∃ lr, X.length = lr := ⟨_, rfl⟩
  have HLR := Lib.hid hlr
  rw [show ((X, (0 : Int)) : List ByteArray × Int).1.length = lr from hlr, show ((X, (0 : Int)) : List ByteArray × Int).2 = 0 from rfl]
  have H1 := Lib.hid (St.call hb1 HSt.out)
  clear hb1 hs1 q0 q2 HSt hX hlr
  have q0 := (H1.out.at (i := 3) rfl).cell
  go_wp2_with fail
  refine (CS.out _ ((HS2.out.below H1.out.bel).mono H1.out.bel.size)).mono ?_
  rintro e w3 ⟨v, rfl, hown3, hb3⟩
  obtain ⟨vA, vc, hvv⟩ := own_slice hown3
  subst hvv
  have H3 := Lib.hid ((((St.call hb3 H1.out).new (g := w3.heap.size) rfl #[.slice vA ls vc] 53).new (g := w3.heap.size + 1) (by simp) #[.int .i64 0] 3).new (g := w3.heap.size + 1 + 1) (by simp) #[.slice A' m c'] 24)
  have HO3 := Lib.hid (((hown3.alloc (.cells #[.slice vA ls vc] 53)).alloc (.cells #[.int .i64 0] 3)).alloc (.cells #[.slice A' m c'] 24))
  have HS3 := Lib.hid (HS1.out.below (((hb3.alloc hb3.size (.cells #[.slice vA ls vc] 53)).alloc (by simp; have := hb3.size; omega) (.cells #[.int .i64 0] 3)).alloc (by simp; have := hb3.size; omega) (.cells #[.slice A' m c'] 24)))
  have hb13 : w1.heap.size ≤ w3.heap.size := hb3.size
  have hbase : w.heap.size ≤ w1.heap.size := H1.out.bel.size
  have hg3lt : w.heap.size + 1 + 1 + 1 < w1.heap.size := H1.out.lt (i := 0) rfl
  clear hown3 hb3 q0 H1
  go_wp2_with fail
  refine (callsIn_wide.1 (steps_in Fence.wide 4 trivial rfl _ _ _ _)).mono ?_
  rintro e w' ⟨rfl, rfl⟩
  have hsz : (((w3.alloc (.cells #[.slice vA ls vc] 53)).alloc (.cells #[.int .i64 0] 3)).alloc (.cells #[.slice A' m c'] 24)).heap.size = w3.heap.size + 3 := by simp
  generalize ((w3.alloc (.cells #[.slice vA ls vc] 53)).alloc (.cells #[.int .i64 0] 3)).alloc (.cells #[.slice A' m c'] 24) = W2 at *
  have hbox := H3.out.at (i := 0) rfl
  go_wp2_with fail
  refine (wpIn_wide (n := 5)).1 ?_
  obtain ⟨YS, hYS⟩ : ∃ YS, okY ws HWO.out = YS := ⟨_, rfl⟩
  have HYM : Hid (YS.map (·.1) = stepsL ws) := Lib.hid (by rw [← hYS]; exact okY_map ws HWO.out)
  have HYL : Hid (YS.length = nSt ws) := Lib.hid (by rw [← hYS, okY_length])
  clear hYS
  refine wpIn_rangeFunc_ownH rfl (by omega) (gf := 78) (lb := #[.pointer (some ⟨w3.heap.size + 1 + 1, 0, none⟩)]) rfl trivial (enters_of Try.func78 (by kernel_rfl) rfl)
    (steps_stops (G := StOk) Fence.wide 4 trivial rfl (by omega) (w3.heap.size + 1 + 1) w.heap.size A' c' ws YS HYM.out HWL.out HX.out W2 (by rw [HM.out]; exact hbox) (HA.out.t.below H3.out.bel) H3.out.bel.size) KpT.trans (fun W l o o' hl ho hc _ => KpT.putObj (by omega) ho hc) (Below.refl _ _) (fun _ => rfl)
    (ExeI w w1.heap.size w3.heap.size st ct A' A A2 A1 m c' li c ls c2 N S X) (ExeX w w1.heap.size w3.heap.size st ct A' A A2 A1 m c' li c ls c2 N S X) ?hI ?hIx ?h0
    (fun x a' W => ∃ Bx, RowAt W Bx 101 #[.int .i64 x.1.pos, .string x.1.b, .bool x.1.cl] ∧ a' = { tmps := #[.agg #[.slice A li c, .slice A2 ls c2], .agg #[.int .i64 st, .int .i64 ct], .slice A' m c', .int .i64 (N : Int), .pointer (some ⟨w.heap.size, 0, none⟩), .pointer (some ⟨w.heap.size + 1, 0, none⟩), undef, .pointer (some ⟨w.heap.size + 1 + 1, 0, none⟩), .pointer (some ⟨w.heap.size + 1 + 1 + 1, 0, none⟩), .int .i64 0, .slice A1 lr c1, .int .i64 0, .pointer (some ⟨w3.heap.size, 0, none⟩), .pointer (some ⟨w3.heap.size + 1, 0, none⟩), .pointer (some ⟨Bx, 0, none⟩), undef, .tuple #[.slice A1 lr c1, .int .i64 0], .pointer (some ⟨w.heap.size, 0, none⟩), .slice A li c, .slice A' m c', .int .i64 (N : Int), .tuple #[.slice A1 lr c1, .int .i64 0], .slice A1 lr c1, .int .i64 0, .int .i64 0, .bool false, undef, undef, .pointer (some ⟨w.heap.size, 1, none⟩), .slice A2 ls c2, .slice vA ls vc, .slice A' m c', .func (.func 78) #[] #[.pointer (some ⟨w3.heap.size + 1 + 1, 0, none⟩)], .agg #[.int .i64 x.1.pos, .string x.1.b, .bool x.1.cl], undef, undef, undef, undef, undef, undef, undef, undef, undef, undef, undef, undef, undef, undef, undef, undef, undef, undef, undef, undef, undef, undef, undef, undef, undef, undef, undef, undef, undef, undef, undef, undef, undef, undef, undef, undef, undef, undef, undef, undef, undef], defers := [] }) ?hAx ?assign ?body ?done ?stop
  case hI =>
    rintro pre B1 B2 row ⟨v, hm, ho, hp, hsl⟩ hg hr
    have hr' : ∀ r, row = some r → w.heap.size ≤ r ∧ ∃ o : Obj, B1.heap[r]? = some o ∧ o.isCells = false := fun r e => ⟨by have := (hr r e).1; omega, (hr r e).2⟩
    exact ⟨v, hm.keep_own hg hr', ownsRow_own ho hg hr', hp, hsl.grown hg (by have := hm.lt (i := 0) rfl; omega) (fun r e => by have := (hr r e).1; omega)⟩
  case hIx =>
    rintro cd pre B1 B2 row ⟨hc, v, hm, ho, hp, hsl⟩ hg hr
    have hr' : ∀ r, row = some r → w.heap.size ≤ r ∧ ∃ o : Obj, B1.heap[r]? = some o ∧ o.isCells = false := fun r e => ⟨by have := (hr r e).1; omega, (hr r e).2⟩
    exact ⟨hc, v, hm.keep_own hg hr', ownsRow_own ho hg hr', hp, hsl.grown hg (by have := hm.lt (i := 0) rfl; omega) (fun r e => by have := (hr r e).1; omega)⟩
  case h0 => exact ⟨.slice vA ls vc, H3.out, by show W2.ownsRow _ _ _ _ S.length (flat encSe S); rw [HLS.out]; exact HO3.out, Nat.zero_le _, HS3.out⟩
  case hAx =>
    rintro x a' _ B1 B2 row ⟨Bx, hrx, e⟩ hg hr
    exact ⟨Bx, rowAt_own (B := 0) hrx hg (fun r e => ⟨Nat.zero_le _, (hr r e).2⟩), e⟩
  case assign =>
    rintro l pre x W K ⟨v, hm, ho, hp, hsl⟩ hK
    dsimp only [encY]
    gi_wp2
    exact hK _ _ ((KeepsOthers.alloc _ _).from _) (KpT.alloc hm.bel.size _) ⟨v, hm.other _, ho.alloc _, hp, hsl.below ((Below.refl _ _).alloc (by have := hm.lt (i := 0) rfl; omega) _)⟩ ⟨W.heap.size, RowAt.new _ _ _, rfl⟩
  case body =>
    rintro l pre ⟨⟨xp, xb, xcl⟩, hok⟩ a' W hl _ ⟨v, hm, ho, hp1, hsl⟩ ⟨Bx, hrx, rfl⟩ hlt
    have qi := (hm.at (i := 1) rfl).cell
    have fi := (hm.at (i := 1) rfl).frozen
    have qo := (hm.at (i := 2) rfl).cell
    have fo := (hm.at (i := 2) rfl).frozen
    have qn := (hm.at (i := 4) rfl).cell
    have qp := (hm.at (i := 5) rfl).cell
    have qx := hrx.cell
    dsimp only at qx
    have hWs : w3.heap.size + 1 + 1 < W.heap.size := hm.lt (i := 0) rfl
    have HO := Lib.hid ho
    have HMM := Lib.hid hm
    have HSL := Lib.hid hsl
    obtain ⟨v1, v2, hv⟩ := own_slice ho
    subst hv
    clear ho hm hsl
    dsimp only
    have hlenN : (pre ++ [(⟨⟨xp, xb, xcl⟩, hok⟩ : StpG StOk)]).length = pre.length + 1 := by simp
    by_cases hk : pre.length < N
    · have hkI : ¬ ((pre.length : Int) = (N : Int)) := by omega
      have hr1 := HMM.out.at (i := 1) rfl
      have hm5 := HMM.out.set 1 rfl 0 (.int .i64 ((pre.length : Int) + 1))
      have ho5 := own_set_ty (j := 0) (u := .int .i64 ((pre.length : Int) + 1)) HO.out hr1 (by decide)
      have t5 := KpT.setCell (n0 := w.heap.size) hr1 (by omega) (by decide) (by decide) 0 (.int .i64 ((pre.length : Int) + 1))
      have hsl5 := HSL.out.below ((Below.refl w1.heap.size W).setCell (p := ⟨w3.heap.size + 1, 0, none⟩) (by show w1.heap.size ≤ w3.heap.size + 1; omega) (.int .i64 ((pre.length : Int) + 1)))
      have HM5 := Lib.hid hm5
      have HO5 := Lib.hid ho5
      have T5 := Lib.hid t5
      have HSL5 := Lib.hid hsl5
      clear hr1 hm5 ho5 t5 hsl5
      cases xcl with
      | false =>
        have HAP : Hid (sesP st ct S (pre ++ [⟨⟨xp, xb, false⟩, hok⟩]) (pre.length + 1) = sesP st ct S pre pre.length) := Lib.hid (by rw [sesP_snoc, if_neg (by simp)])
        gi_wp2
        exact ⟨(KeepsOthers.setCell _ _ _).from _, T5.out, _, by rw [hlenN]; exact HM5.out, by rw [hlenN, HAP.out]; exact HO5.out, by rw [hlenN]; omega, HSL5.out⟩
      | true =>
        obtain ⟨F, hF⟩ : ∃ F, sesP st ct S pre pre.length = F := ⟨_, rfl⟩
        have HFF := Lib.hid hF
        have hF6 : F.length ≤ 1001000 := by rw [← hF]; have := sesK_len (st := st) (ct := ct) (steps := pre.map (·.1)) (S := S) pre.length; have := HLS.out; unfold sesP; omega
        rw [hF] at HO5 HM5 HO HMM qo
        clear hF
        obtain ⟨L, hL⟩ : ∃ L, F.length = L := ⟨_, rfl⟩
        have HL := Lib.hid hL
        rw [hL] at HO5 HM5 HO HMM qo hF6
        clear hL
        gi_upto_region 11 with fail
        have K5 := Lib.hid (KeepsOthers.setCell W ⟨w3.heap.size + 1, 0, none⟩ (.int .i64 ((pre.length : Int) + 1)))
        generalize W.setCell ⟨w3.heap.size + 1, 0, none⟩ (.int .i64 ((pre.length : Int) + 1)) = W5 at *
        have HOL : Hid (W5.ownsRow w1.heap.size 65 3 (.slice v1 L v2) L (flat encSe F)) := Lib.hid HO5.out
        have hW5 : w3.heap.size + 1 + 1 < W5.heap.size := HM5.out.lt (i := 0) rfl
        clear qi fi qo fo qn qp qx
        have qo := (HM5.out.at (i := 2) rfl).cell
        have fo := (HM5.out.at (i := 2) rfl).frozen
        have qp := (HM5.out.at (i := 5) rfl).cell
        by_cases hopen : ∃ x, F[L - 1]? = some x ∧ x.closed = false
        · obtain ⟨x, hx, hxc⟩ := hopen
          have hL0 : 0 < L := by have := (List.getElem?_eq_some_iff.1 hx).1; have := HL.out; omega
          obtain ⟨go, cap, hv, hgo, hgol, _⟩ := own_form HOL.out hL0
          injection hv with hA _ hc
          subst hA hc
          have c2' := HOL.out.cellAt ((L - 1) * 3 + 2) (by omega)
          rw [flat_get encSe_length _ (L - 1) 2 x hx (by omega)] at c2'
          replace c2' : W5.cell? ⟨go, (L - 1) * 3 + 2, none⟩ = some (.bool false) := by rw [c2', ← hxc]; rfl
          have f2' := HOL.out.frozenAt ((L - 1) * 3 + 2)
          have eL : ((L : Int) - 1).toNat = L - 1 := by omega
          have h0L : (0 : Int) ≤ (L : Int) - 1 := by omega
          have h00L : (0 : Int) < (L : Int) := by omega
          have HIT : Hid (sesP st ct S (pre ++ [⟨⟨xp, xb, true⟩, hok⟩]) (pre.length + 1) = F.set (L - 1) ⟨x.start, x.count, true⟩) := Lib.hid (by
            rw [sesP_snoc, if_pos rfl, HFF.out, sesStep_set (by rw [HL.out]; exact hx) hxc, HL.out])
          obtain ⟨hown6, hg6⟩ := HOL.out.stored ((L - 1) * 3 + 2) (.bool true)
          rw [flat_set hx, ← HIT.out] at hown6
          have hst6 := HM5.out.grown_ty HOL.out hg6 hbase exeRows_ty
          have hsl6 := HSL5.out.below ((Below.refl w1.heap.size W5).setCell (p := ⟨go, (L - 1) * 3 + 2, none⟩) hgo (.bool true))
          have K7 := Lib.hid (K5.out.trans (KeepsOthers.of_own HOL.out hg6))
          have t7 := T5.out.trans (KpT.grown HOL.out hg6 hbase HM5.out.bel.size (by decide) (by decide))
          have HLL : Hid (L = (sesP st ct S (pre ++ [⟨⟨xp, xb, true⟩, hok⟩]) (pre.length + 1)).length) := Lib.hid (by rw [HIT.out, List.length_set, HL.out])
          have E7 := Lib.hid (And.intro t7 (And.intro hst6 (And.intro hown6 hsl6)))
          clear hx hown6 hg6 hst6 hsl6 t7
          gi_wp2
          exact ⟨K7.out.from _, E7.out.1, .slice (some ⟨go, 0, none⟩) L v2, by rw [hlenN]; exact E7.out.2.1, by rw [hlenN, ← HLL.out]; exact E7.out.2.2.1, by rw [hlenN]; omega, E7.out.2.2.2⟩
        · have HIT : Hid (sesP st ct S (pre ++ [⟨⟨xp, xb, true⟩, hok⟩]) (pre.length + 1) = F ++ [⟨st, ct, true⟩]) := Lib.hid (by
            rw [sesP_snoc, if_pos rfl, HFF.out]
            refine sesStep_app fun x hx => ?_
            rw [HL.out] at hx
            cases hc : x.closed with
            | true => rfl
            | false => exact absurd ⟨x, hx, hc⟩ hopen)
          by_cases hL0 : 0 < L
          · obtain ⟨x, hx⟩ : ∃ x, F[L - 1]? = some x := ⟨_, List.getElem?_eq_getElem (by have := HL.out; omega)⟩
            have hxc : x.closed = true := by
              cases hc : x.closed with
              | true => rfl
              | false => exact absurd ⟨x, hx, hc⟩ hopen
            obtain ⟨go, cap, hv, hgo, hgol, _⟩ := own_form HOL.out hL0
            injection hv with hA _ hc
            subst hA hc
            have c2' := HOL.out.cellAt ((L - 1) * 3 + 2) (by omega)
            rw [flat_get encSe_length _ (L - 1) 2 x hx (by omega)] at c2'
            replace c2' : W5.cell? ⟨go, (L - 1) * 3 + 2, none⟩ = some (.bool true) := by rw [c2', ← hxc]; rfl
            have eL : ((L : Int) - 1).toNat = L - 1 := by omega
            have h0L : (0 : Int) ≤ (L : Int) - 1 := by omega
            have h00L : (0 : Int) < (L : Int) := by omega
            clear hx hxc hopen
            gi_upto_region 14 with fail
            refine wpIn_list_of (by kernel_rfl) (by rintro ⟨a, w, h⟩; exact h) ?_
            go_wp2_with (at_builtin; refine wpList_appN HOL.out info_ses Try.underlying53 rfl (by decide) (us := [.int .i64 st, .int .i64 ct, .bool true]) rfl (by unfold maxLen; omega) (by omega) (by omega) (by intro u hu; simp only [List.mem_cons, List.not_mem_nil, or_false] at hu; rcases hu with rfl | rfl | rfl <;> rfl) rfl rfl (by rfl) (by rfl) ?_; intro v5 w6 hown6 hb6 hg6; have hst6 := HM5.out.grown_ty HOL.out hg6 hbase exeRows_ty; have hsl6 := HSL5.out.below hb6; have k6 := KeepsOthers.of_own HOL.out hg6; have t6 := KpT.grown HOL.out hg6 hbase HM5.out.bel.size (by decide) (by decide); obtain ⟨A5, c5, hv5⟩ := own_slice' hown6; subst hv5; have q6 := (hst6.at (i := 2) rfl).cell; have f6 := (hst6.at (i := 2) rfl).frozen)
            have hr7 := hst6.at (i := 2) rfl
            have hst7 := hst6.set 2 rfl 0 (.slice A5 (L + 1) c5)
            have hown7 := own_set_ty (j := 0) (u := .slice A5 (L + 1) c5) hown6 hr7 (by decide)
            rw [show flat encSe F ++ [.int .i64 st, .int .i64 ct, .bool true] = flat encSe (sesP st ct S (pre ++ [⟨⟨xp, xb, true⟩, hok⟩]) (pre.length + 1)) by rw [HIT.out, flat_snoc]; rfl] at hown7
            have HLL : Hid (L + 1 = (sesP st ct S (pre ++ [⟨⟨xp, xb, true⟩, hok⟩]) (pre.length + 1)).length) := Lib.hid (by rw [HIT.out, List.length_append, HL.out]; rfl)
            have t7 := (T5.out.trans t6).trans (KpT.setCell (n0 := w.heap.size) hr7 (by omega) (by decide) (by decide) 0 (.slice A5 (L + 1) c5))
            have hsl7 := hsl6.below ((Below.refl w1.heap.size w6).setCell (p := ⟨w3.heap.size, 0, none⟩) hb13 (.slice A5 (L + 1) c5))
            have K7 := Lib.hid ((K5.out.trans k6).trans (KeepsOthers.setCell w6 ⟨w3.heap.size, 0, none⟩ (.slice A5 (L + 1) c5)))
            have E7 := Lib.hid (And.intro t7 (And.intro hst7 (And.intro hown7 hsl7)))
            clear hst6 hr7 hst7 hown7 t7 hsl7 hown6 hb6 hg6 hsl6 k6 t6 q6 f6
            gi_wp2
            exact ⟨K7.out.from _, E7.out.1, .slice A5 (L + 1) c5, by rw [hlenN]; exact E7.out.2.1, by rw [hlenN, ← HLL.out]; exact E7.out.2.2.1, by rw [hlenN]; omega, E7.out.2.2.2⟩
          · have h00L : ¬ (0 : Int) < (L : Int) := by omega
            clear hopen
            gi_upto_region 14 with fail
            refine wpIn_list_of (by kernel_rfl) (by rintro ⟨a, w, h⟩; exact h) ?_
            go_wp2_with (at_builtin; refine wpList_appN HOL.out info_ses Try.underlying53 rfl (by decide) (us := [.int .i64 st, .int .i64 ct, .bool true]) rfl (by unfold maxLen; omega) (by omega) (by omega) (by intro u hu; simp only [List.mem_cons, List.not_mem_nil, or_false] at hu; rcases hu with rfl | rfl | rfl <;> rfl) rfl rfl (by rfl) (by rfl) ?_; intro v5 w6 hown6 hb6 hg6; have hst6 := HM5.out.grown_ty HOL.out hg6 hbase exeRows_ty; have hsl6 := HSL5.out.below hb6; have k6 := KeepsOthers.of_own HOL.out hg6; have t6 := KpT.grown HOL.out hg6 hbase HM5.out.bel.size (by decide) (by decide); obtain ⟨A5, c5, hv5⟩ := own_slice' hown6; subst hv5; have q6 := (hst6.at (i := 2) rfl).cell; have f6 := (hst6.at (i := 2) rfl).frozen)
            have hr7 := hst6.at (i := 2) rfl
            have hst7 := hst6.set 2 rfl 0 (.slice A5 (L + 1) c5)
            have hown7 := own_set_ty (j := 0) (u := .slice A5 (L + 1) c5) hown6 hr7 (by decide)
            rw [show flat encSe F ++ [.int .i64 st, .int .i64 ct, .bool true] = flat encSe (sesP st ct S (pre ++ [⟨⟨xp, xb, true⟩, hok⟩]) (pre.length + 1)) by rw [HIT.out, flat_snoc]; rfl] at hown7
            have HLL : Hid (L + 1 = (sesP st ct S (pre ++ [⟨⟨xp, xb, true⟩, hok⟩]) (pre.length + 1)).length) := Lib.hid (by rw [HIT.out, List.length_append, HL.out]; rfl)
            have t7 := (T5.out.trans t6).trans (KpT.setCell (n0 := w.heap.size) hr7 (by omega) (by decide) (by decide) 0 (.slice A5 (L + 1) c5))
            have hsl7 := hsl6.below ((Below.refl w1.heap.size w6).setCell (p := ⟨w3.heap.size, 0, none⟩) hb13 (.slice A5 (L + 1) c5))
            have K7 := Lib.hid ((K5.out.trans k6).trans (KeepsOthers.setCell w6 ⟨w3.heap.size, 0, none⟩ (.slice A5 (L + 1) c5)))
            have E7 := Lib.hid (And.intro t7 (And.intro hst7 (And.intro hown7 hsl7)))
            clear hst6 hr7 hst7 hown7 t7 hsl7 hown6 hb6 hg6 hsl6 k6 t6 q6 f6
            gi_wp2
            exact ⟨K7.out.from _, E7.out.1, .slice A5 (L + 1) c5, by rw [hlenN]; exact E7.out.2.1, by rw [hlenN, ← HLL.out]; exact E7.out.2.2.1, by rw [hlenN]; omega, E7.out.2.2.2⟩
    · have hkN : pre.length = N := by omega
      have hkI : ((pre.length : Int) == (N : Int)) = true := by rw [beq_iff_eq]; omega
      have hsame : sesP st ct S (pre ++ [⟨⟨xp, xb, xcl⟩, hok⟩]) N = sesP st ct S pre pre.length := by rw [sesP_keep (by omega), hkN]
      have HSA := Lib.hid hsame
      have HKN := Lib.hid hkN
      clear hkN hsame
      rw [HKN.out] at qi
      gi_wp2
      refine ⟨(KeepsOthers.refl _).from _, rfl, .slice v1 (sesP st ct S pre pre.length).length v2, ?_, ?_, by rw [hlenN, HKN.out], HSL.out⟩
      · have := HMM.out
        rw [HKN.out] at this
        rw [HKN.out]
        exact this
      · rw [HSA.out]
        exact HO.out
  case done =>
    rintro D ys W hD rfl ⟨v, hm, ho, hp1, hsl⟩ hK
    have HF : Hid (sesP st ct S ys ys.length = sesK st ct (stepsL ws) S N) := Lib.hid (by
      unfold sesP
      rw [HYM.out, show ys.length = N by have := HYL.out; have := HNN.out; omega])
    rw [HF.out] at ho
    obtain ⟨L, hL⟩ : ∃ L, (sesK st ct (stepsL ws) S N).length = L := ⟨_, rfl⟩
    have HLF := Lib.hid hL
    rw [hL] at ho
    clear hL
    obtain ⟨v1, v2, hvv⟩ := own_slice ho
    subst hvv
    have q := (hm.at (i := 2) rfl).cell
    have f := (hm.at (i := 3) rfl).frozen
    have qr := (hm.at (i := 3) rfl).cell
    by_cases h16 : 16 < L
    · have h16I : (16 : Int) < (L : Int) := by omega
      have HE : Hid (exeR img ws (N : Int) st ct S = ([], [], 12)) := Lib.hid (by unfold exeR; rw [HR.out, if_neg (by simp), Int.toNat_natCast, if_pos (by rw [HLF.out]; exact h16)])
      have hm4 := (hm.set 3 rfl 0 (.slice none 0 0)).set 3 rfl 1 (.slice none 0 0)
      have hK1 := ((KeepsOthers.setCell W ⟨w.heap.size + 1 + 1 + 1, 0, none⟩ (.slice none 0 0)).trans (KeepsOthers.setCell _ ⟨w.heap.size + 1 + 1 + 1, 1, none⟩ (.slice none 0 0))).same D _ hK rfl
      have HX4 := Lib.hid (And.intro hm4 hK1)
      clear hm4 hK1
      gi_wp2
      go_wp2_with fail
      obtain ⟨hm4, hK1⟩ := HX4.out
      generalize (W.setCell ⟨w.heap.size + 1 + 1 + 1, 0, none⟩ (.slice none 0 0)).setCell ⟨w.heap.size + 1 + 1 + 1, 1, none⟩ (.slice none 0 0) = W4 at *
      have hg := grownBy_putObj' W4 D (.deferred none)
      have hc : ∀ q, some D = some q → w.heap.size ≤ q ∧ ∃ o : Obj, W4.heap[q]? = some o ∧ o.isCells = false := fun q e => by cases e; exact ⟨by omega, _, hK1, rfl⟩
      have c1 := (rowAt_own (hm4.at (i := 3) rfl) hg hc).cell
      refine ⟨by simp, .inl ⟨_, _, rfl, run_takeDeferred hK1, ?_⟩⟩
      refine ⟨.tuple #[.agg #[.slice none 0 0, .slice none 0 0], .int .i64 12], ?_, hm4.bel.grown hg hm4.bel.size (fun k e => (hc k e).1), none, 0, none, 0, by rw [HE.out]; rfl, by rw [HE.out]; exact SlAt.nil _ _ _, by rw [HE.out]; exact SlAt.nil _ _ _⟩
      simp [results, Try.f31, go_sem, c1]
    · have h16I : ¬ (16 : Int) < (L : Int) := by omega
      have HE : Hid (exeR img ws (N : Int) st ct S = (X, sesK st ct (stepsL ws) S N, 0)) := Lib.hid (by unfold exeR; rw [HR.out, if_neg (by simp), Int.toNat_natCast, if_neg (by rw [HLF.out]; exact h16), HXX.out])
      have hm4 := (hm.set 3 rfl 0 (.slice A1 lr c1)).set 3 rfl 1 (.slice v1 L v2)
      have hK1 := ((KeepsOthers.setCell W ⟨w.heap.size + 1 + 1 + 1, 0, none⟩ (.slice A1 lr c1)).trans (KeepsOthers.setCell _ ⟨w.heap.size + 1 + 1 + 1, 1, none⟩ (.slice v1 L v2))).same D _ hK rfl
      have hs4 := (hsl.far_row (hm.at (i := 3) rfl) slices2 0 (.slice A1 lr c1)).far_row ((hm.set 3 rfl 0 (.slice A1 lr c1)).at (i := 3) rfl) slices2 1 (.slice v1 L v2)
      have ho4 := own_set (j := 1) (u := .slice v1 L v2) (own_set (j := 0) (u := .slice A1 lr c1) ho hg3lt) hg3lt
      have HX4 := Lib.hid (And.intro hm4 (And.intro hK1 (And.intro hs4 ho4)))
      clear hm4 hK1 hs4 ho4
      gi_wp2
      go_wp2_with fail
      obtain ⟨hm4, hK1, hs4, ho4⟩ := HX4.out
      generalize (W.setCell ⟨w.heap.size + 1 + 1 + 1, 0, none⟩ (.slice A1 lr c1)).setCell ⟨w.heap.size + 1 + 1 + 1, 1, none⟩ (.slice v1 L v2) = W4 at *
      have hg := grownBy_putObj' W4 D (.deferred none)
      have hc : ∀ q, some D = some q → w.heap.size ≤ q ∧ ∃ o : Obj, W4.heap[q]? = some o ∧ o.isCells = false := fun q e => by cases e; exact ⟨by omega, _, hK1, rfl⟩
      have hW4 : w3.heap.size + 1 + 1 < W4.heap.size := hm4.lt (i := 0) rfl
      have c5 := (rowAt_own (hm4.at (i := 3) rfl) hg hc).cell
      have ho5 := ownsRow_own ho4 hg hc
      have hs5 := hs4.grown hg (by omega) (fun r e => by cases e; omega)
      refine ⟨by simp, .inl ⟨_, _, rfl, run_takeDeferred hK1, ?_⟩⟩
      refine ⟨.tuple #[.agg #[.slice A1 lr c1, .slice v1 L v2], .int .i64 0], ?_, hm4.bel.grown hg hm4.bel.size (fun k e => (hc k e).1), A1, c1, v1, v2, by rw [HE.out, ← HLR.out, ← HLF.out], by rw [HE.out]; exact hs5.mono (Nat.le_trans (by omega) hg.size), by rw [HE.out]; exact SlAt.of_own' ho5 (Nat.le_refl _)⟩
      simp [results, Try.f31, go_sem, c5]
  case stop =>
    rintro D cd pre W hD hpre ⟨rfl, v, hm, ho, hp1, hsl⟩ hK
    have HF : Hid (sesP st ct S pre N = sesK st ct (stepsL ws) S N) := Lib.hid (by
      unfold sesP
      exact sesK_pre (by rw [← HYM.out]; exact hpre.map _) N (by rw [List.length_map]; omega))
    rw [HF.out] at ho
    obtain ⟨L, hL⟩ : ∃ L, (sesK st ct (stepsL ws) S N).length = L := ⟨_, rfl⟩
    have HLF := Lib.hid hL
    rw [hL] at ho
    clear hL
    obtain ⟨v1, v2, hvv⟩ := own_slice ho
    subst hvv
    have q := (hm.at (i := 2) rfl).cell
    have f := (hm.at (i := 3) rfl).frozen
    have qr := (hm.at (i := 3) rfl).cell
    by_cases h16 : 16 < L
    · have h16I : (16 : Int) < (L : Int) := by omega
      have HE : Hid (exeR img ws (N : Int) st ct S = ([], [], 12)) := Lib.hid (by unfold exeR; rw [HR.out, if_neg (by simp), Int.toNat_natCast, if_pos (by rw [HLF.out]; exact h16)])
      have hm4 := (hm.set 3 rfl 0 (.slice none 0 0)).set 3 rfl 1 (.slice none 0 0)
      have hK1 := ((KeepsOthers.setCell W ⟨w.heap.size + 1 + 1 + 1, 0, none⟩ (.slice none 0 0)).trans (KeepsOthers.setCell _ ⟨w.heap.size + 1 + 1 + 1, 1, none⟩ (.slice none 0 0))).same D _ hK rfl
      have HX4 := Lib.hid (And.intro hm4 hK1)
      clear hm4 hK1
      gi_wp2
      go_wp2_with fail
      obtain ⟨hm4, hK1⟩ := HX4.out
      generalize (W.setCell ⟨w.heap.size + 1 + 1 + 1, 0, none⟩ (.slice none 0 0)).setCell ⟨w.heap.size + 1 + 1 + 1, 1, none⟩ (.slice none 0 0) = W4 at *
      have hg := grownBy_putObj' W4 D (.deferred none)
      have hc : ∀ q, some D = some q → w.heap.size ≤ q ∧ ∃ o : Obj, W4.heap[q]? = some o ∧ o.isCells = false := fun q e => by cases e; exact ⟨by omega, _, hK1, rfl⟩
      have c1 := (rowAt_own (hm4.at (i := 3) rfl) hg hc).cell
      refine ⟨by simp, .inl ⟨_, _, rfl, run_takeDeferred hK1, ?_⟩⟩
      refine ⟨.tuple #[.agg #[.slice none 0 0, .slice none 0 0], .int .i64 12], ?_, hm4.bel.grown hg hm4.bel.size (fun k e => (hc k e).1), none, 0, none, 0, by rw [HE.out]; rfl, by rw [HE.out]; exact SlAt.nil _ _ _, by rw [HE.out]; exact SlAt.nil _ _ _⟩
      simp [results, Try.f31, go_sem, c1]
    · have h16I : ¬ (16 : Int) < (L : Int) := by omega
      have HE : Hid (exeR img ws (N : Int) st ct S = (X, sesK st ct (stepsL ws) S N, 0)) := Lib.hid (by unfold exeR; rw [HR.out, if_neg (by simp), Int.toNat_natCast, if_neg (by rw [HLF.out]; exact h16), HXX.out])
      have hm4 := (hm.set 3 rfl 0 (.slice A1 lr c1)).set 3 rfl 1 (.slice v1 L v2)
      have hK1 := ((KeepsOthers.setCell W ⟨w.heap.size + 1 + 1 + 1, 0, none⟩ (.slice A1 lr c1)).trans (KeepsOthers.setCell _ ⟨w.heap.size + 1 + 1 + 1, 1, none⟩ (.slice v1 L v2))).same D _ hK rfl
      have hs4 := (hsl.far_row (hm.at (i := 3) rfl) slices2 0 (.slice A1 lr c1)).far_row ((hm.set 3 rfl 0 (.slice A1 lr c1)).at (i := 3) rfl) slices2 1 (.slice v1 L v2)
      have ho4 := own_set (j := 1) (u := .slice v1 L v2) (own_set (j := 0) (u := .slice A1 lr c1) ho hg3lt) hg3lt
      have HX4 := Lib.hid (And.intro hm4 (And.intro hK1 (And.intro hs4 ho4)))
      clear hm4 hK1 hs4 ho4
      gi_wp2
      go_wp2_with fail
      obtain ⟨hm4, hK1, hs4, ho4⟩ := HX4.out
      generalize (W.setCell ⟨w.heap.size + 1 + 1 + 1, 0, none⟩ (.slice A1 lr c1)).setCell ⟨w.heap.size + 1 + 1 + 1, 1, none⟩ (.slice v1 L v2) = W4 at *
      have hg := grownBy_putObj' W4 D (.deferred none)
      have hc : ∀ q, some D = some q → w.heap.size ≤ q ∧ ∃ o : Obj, W4.heap[q]? = some o ∧ o.isCells = false := fun q e => by cases e; exact ⟨by omega, _, hK1, rfl⟩
      have hW4 : w3.heap.size + 1 + 1 < W4.heap.size := hm4.lt (i := 0) rfl
      have c5 := (rowAt_own (hm4.at (i := 3) rfl) hg hc).cell
      have ho5 := ownsRow_own ho4 hg hc
      have hs5 := hs4.grown hg (by omega) (fun r e => by cases e; omega)
      refine ⟨by simp, .inl ⟨_, _, rfl, run_takeDeferred hK1, ?_⟩⟩
      refine ⟨.tuple #[.agg #[.slice A1 lr c1, .slice v1 L v2], .int .i64 0], ?_, hm4.bel.grown hg hm4.bel.size (fun k e => (hc k e).1), A1, c1, v1, v2, by rw [HE.out, ← HLR.out, ← HLF.out], by rw [HE.out]; exact hs5.mono (Nat.le_trans (by omega) hg.size), by rw [HE.out]; exact SlAt.of_own' ho5 (Nat.le_refl _)⟩
      simp [results, Try.f31, go_sem, c5]
end Go.Proofs.Ytdmdfpdigoijoaa
