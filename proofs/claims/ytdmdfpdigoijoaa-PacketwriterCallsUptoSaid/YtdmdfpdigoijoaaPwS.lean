/-
  Chapter 52: Steps of the program.
-/
import Derived.Test.YtdmdfpdigoijoaaPwI
import Derived.Test.YtdmdfpdigoijoaaOwnK
namespace Go.Proofs.Ytdmdfpdigoijoaa
open Go.RowKit Go.Shelf
set_option linter.unusedVariables false
attribute [local go_sem] Oper.semAt_some

theorem KpT.setCell {n0 : Nat} {W : World} {g : Nat} {t : TypeId} {cs : Array Value} (h : RowAt W g t cs) (hn : n0 ≤ g) (h1 : t ≠ 24) (h2 : t ≠ 49) (j : Nat) (v : Value) : KpT n0 W (W.setCell ⟨g, j, none⟩ v) :=
  ⟨(Below.refl n0 W).setCell (p := ⟨g, j, none⟩) hn _, fun g' t' cs' ht hr => hr.far (p := ⟨g, j, none⟩) (by
    show g' ≠ g
    intro e
    subst e
    unfold RowAt at h hr
    rw [h] at hr
    injection hr with hr
    injection hr with _ e2
    subst e2
    rcases ht with ht | ht
    · exact h1 ht
    · exact h2 ht) v⟩
theorem KpT.alloc {n0 : Nat} {W : World} (hn : n0 ≤ W.heap.size) (o : Obj) : KpT n0 W (W.alloc o) := ⟨(Below.refl n0 W).alloc hn o, fun _ _ _ _ hr => hr.alloc o⟩
theorem KpT.below {n0 : Nat} {W W' : World} (hn : n0 ≤ W.heap.size) (hb : Below W.heap.size W W') : KpT n0 W W' := ⟨hb.mono hn, fun _ _ _ _ hr => hr.below hb hr.lt⟩
theorem KpT.grown {n0 base e size n : Nat} {W W' : World} {v : Value} {xs : List Value} (ho : W.ownsRow base e size v n xs) (hg : W.grownBy W' v.ownBlock) (hn : n0 ≤ base) (hnW : n0 ≤ W.heap.size) (h1 : e ≠ 24) (h2 : e ≠ 49) : KpT n0 W W' :=
  ⟨(Below.refl n0 W).grown hg hnW (fun k hk => Nat.le_trans hn (ho.lt k hk).1), fun g t cs ht hr => hr.grown hg (fun e' => own_row_ne ho hr (by rcases ht with rfl | rfl <;> assumption) g e'.symm rfl)⟩
def stY (ws : List Wr) : List (StpG fun _ => True) := (stepsL ws).map fun s => ⟨s, trivial⟩
theorem stY_map (ws : List Wr) : (stY ws).map (·.1) = stepsL ws := by
  unfold stY
  rw [List.map_map]
  exact List.map_id _
theorem stY_length (ws : List Wr) : (stY ws).length = nSt ws := by simp [stY, nSt]

set_option maxRecDepth 100000 in
set_option maxHeartbeats 4000000 in
theorem steps_any (A : Option Addr) (c : Nat) (ws : List Wr) (w : World) (h : WrAt w w.heap.size A ws) (hl : ws.length ≤ 1000000) (hb : ∀ x ∈ ws, x.bl.length ≤ 1000000) (hn : nSt ws ≤ 1000000000000) :
    Calls Try.prog 19 #[.slice A ws.length c] w fun e w' => e = .returned (.int .i64 (nSt ws : Int)) ∧ Below w.heap.size w w' := by
  have HW := Lib.hid h
  have HL := Lib.hid hl
  have HB := Lib.hid hb
  obtain ⟨m, hm⟩ : ∃ m, ws.length = m := ⟨_, rfl⟩
  have HM := Lib.hid hm
  rw [hm]
  clear h hl hb hm
  refine (callsIn_wide (n := 5)).1 ?_
  refine callsIn_of_wp_marks Try.func19 rfl trivial ?_ rfl
  simp only [Try.ntmps19, List.size_toArray, List.length_cons, List.length_nil, Nat.reduceAdd, Nat.reduceSub, Array.replicate_succ, Array.replicate_zero, List.push_toArray, List.append_toArray, List.nil_append, List.cons_append]
  gi_wp2_with (refine ⟨trivial, ?_⟩; gi_at_call 58; refine (steps_in Fence.wide 4 trivial rfl _ _ _ _).mono ?_; rintro e w' ⟨rfl, rfl⟩)
  have h2 := ((St.start w).new (g := w.heap.size) rfl #[.int .i64 0] 3).new (g := w.heap.size + 1) (by simp) #[.slice A m c] 24
  have hsz : ((w.alloc (.cells #[.int .i64 0] 3)).alloc (.cells #[.slice A m c] 24)).heap.size = w.heap.size + 2 := by simp
  generalize (w.alloc (.cells #[.int .i64 0] 3)).alloc (.cells #[.slice A m c] 24) = W2 at *
  have hbox := h2.at (i := 0) rfl
  refine wpIn_rangeFunc_ownG rfl (by omega) (gf := 78) (lb := #[.pointer (some ⟨w.heap.size + 1, 0, none⟩)]) rfl trivial (enters_of Try.func78 (by kernel_rfl) rfl)
    (steps_stops (G := fun _ => True) Fence.wide 4 trivial rfl (by omega) (w.heap.size + 1) w.heap.size A c ws (stY ws) (stY_map ws) HL.out HB.out W2 (by rw [HM.out]; exact hbox) (HW.out.below h2.bel) h2.bel.size) KpT.trans (fun W l o o' hl ho hc _ => KpT.putObj (by omega) ho hc) (Below.refl _ _) (fun _ => rfl)
    (fun pre W => St w W [(w.heap.size + 1, 24, #[.slice A m c]), (w.heap.size, 3, #[.int .i64 (pre.length : Int)])] ∧ pre.length ≤ nSt ws) (fun _ _ _ => False) ?hI (fun _ _ _ _ _ hs _ _ => hs) ?h0
    (fun x => { tmps := #[.slice A m c, undef, .int .i64 0, .pointer (some ⟨w.heap.size, 0, none⟩), .slice A m c, .func (.func 78) #[] #[.pointer (some ⟨w.heap.size + 1, 0, none⟩)], .agg #[.int .i64 x.1.pos, .string x.1.b, .bool x.1.cl], undef, undef, undef], defers := [] }) ?assign ?body ?done ?stop
  case hI =>
    rintro pre A1 B1 row ⟨hm, hl⟩ hg hr
    exact ⟨hm.keep_own hg (fun r e => ⟨by have := (hr r e).1; omega, (hr r e).2⟩), hl⟩
  case h0 => exact ⟨h2, by simp⟩
  case assign =>
    intro l x W K hK
    dsimp only [encY]
    gi_wp2
    exact hK
  case body =>
    rintro l pre x W ⟨hm, hpl⟩ hlt
    rw [stY_length] at hlt
    have q := (hm.at (i := 1) rfl).cell
    have f := (hm.at (i := 1) rfl).frozen
    have hs := hm.set 1 rfl 0 (.int .i64 (((pre ++ [x]).length : Nat) : Int))
    have hln : ((pre ++ [x]).length : Int) = (pre.length : Int) + 1 := by simp
    rw [hln] at hs
    gi_wp2
    exact ⟨(KeepsOthers.setCell _ _ _).from _, KpT.setCell (hm.at (i := 1) rfl) (Nat.le_refl _) (by decide) (by decide) _ _, by rw [hln]; exact hs, by simp; omega⟩
  case done =>
    rintro D ys W hD rfl ⟨hm, _⟩ hK
    have q := (hm.at (i := 1) rfl).cell
    rw [stY_length] at q
    gi_wp2
    refine ⟨by simp, .inl ⟨_, _, rfl, run_takeDeferred hK, ?_⟩⟩
    refine ⟨_, results_tmp rfl _ _ _, rfl, ?_⟩
    exact hm.bel.grown (grownBy_putObj' W D (.deferred none)) hm.bel.size (fun k e => by cases e; omega)
  case stop =>
    rintro D c pre W _ _ h _
    exact h.elim
end Go.Proofs.Ytdmdfpdigoijoaa
