/-
  Chapter 52: the writer: Fill and Block.
-/
import Derived.Test.YtdmdfpdigoijoaaPwFl
namespace Go.Proofs.Ytdmdfpdigoijoaa
open Go.RowKit
set_option linter.unusedVariables false

/-- The block of a pending address. -/
def blkP (l : List Pend) (a : Int) : ByteArray := ((l[(findP l a).toNat]?).map (·.blk)).getD blankS
def fillE (l : List Pend) (a : Int) (b : ByteArray) : Int := if b.size ≠ 2048 then 1 else if findP l a < 0 then 6 else if (blkP l a).toList ≠ [] then 5 else 0
def setL (l : List Pend) (a : Int) (b : ByteArray) : List Pend := l.set (findP l a).toNat ⟨a, b⟩
def blkR (l : List Pend) (a : Int) : ByteArray × Bool := if findP l a < 0 ∨ (blkP l a).toList = [] then (blankS, false) else (blkP l a, true)
theorem setL_length (l : List Pend) (a : Int) (b : ByteArray) : (setL l a b).length = l.length := by unfold setL; rw [List.length_set]
theorem flat_setP {l : List Pend} {k : Nat} {x : Pend} {b : ByteArray} (hx : l[k]? = some x) : (flat encP l).set (k * 2 + 1) (.string b) = flat encP (l.set k ⟨x.lba, b⟩) := by
  have hk := (List.getElem?_eq_some_iff.1 hx).1
  have h1 : l = l.take k ++ x :: l.drop (k + 1) := by
    rw [← (List.getElem?_eq_some_iff.1 hx).2, List.getElem_cons_drop, List.take_append_drop]
  have h2 : l.set k ⟨x.lba, b⟩ = l.take k ++ ⟨x.lba, b⟩ :: l.drop (k + 1) := by
    rw [List.set_eq_take_append_cons_drop, if_pos hk]
  have h3 : (flat encP (l.take k)).length = k * 2 := by rw [flat_length encP_length, List.length_take, Nat.min_eq_left (by omega)]
  have e1 : flat encP l = flat encP (l.take k) ++ (encP x ++ flat encP (l.drop (k + 1))) := by
    conv => lhs; rw [h1]
    unfold flat
    rw [List.flatMap_append, List.flatMap_cons]
  have e2 : flat encP (l.set k ⟨x.lba, b⟩) = flat encP (l.take k) ++ (encP ⟨x.lba, b⟩ ++ flat encP (l.drop (k + 1))) := by
    rw [h2]
    unfold flat
    rw [List.flatMap_append, List.flatMap_cons]
  rw [e1, e2, List.set_append_right _ _ (by omega), h3, Nat.add_sub_cancel_left]
  rfl
/-- What Fill answers. -/
def FillRes (base0 g : Nat) (st ba : Int) (l : List Pend) (a : Int) (b : ByteArray) (r : Option Nat) (w : World) (e : Ending) (w' : World) : Prop :=
  (fillE l a b ≠ 0 ∧ e = .returned (.int .i64 (fillE l a b)) ∧ Below w.heap.size w w') ∨
  (fillE l a b = 0 ∧ e = .returned (.int .i64 0) ∧ WtAt w' base0 g st ba (setL l a b) ∧ Two w w' g r)
set_option maxHeartbeats 2000000 in
theorem fill_any (base0 g : Nat) (st ba : Int) (l : List Pend) (Al : Option Addr) (cl : Nat) (a : Int) (b : ByteArray) (w : World)
    (hr : RowAt w g 109 #[.int .i64 st, .int .i64 ba, .slice Al l.length cl]) (ho : w.ownsRow base0 114 2 (.slice Al l.length cl) l.length (flat encP l)) (hl : l.length ≤ 1000000) :
    Calls Try.prog 41 #[.pointer (some ⟨g, 0, none⟩), .int .i64 a, .string b] w (FillRes base0 g st ba l a b (Value.slice Al l.length cl).ownBlock w) := by
  have CF := Lib.hid (find_any base0 g st ba l a w ⟨Al, cl, hr, ho⟩ hl)
  have HR := Lib.hid hr
  have HO := Lib.hid ho
  have hlt := hr.lt
  obtain ⟨n, hn⟩ : ∃ n, l.length = n := ⟨_, rfl⟩
  have HN := Lib.hid hn
  rw [hn] at hl HR HO ⊢
  clear hr ho hn
  by_cases hs : b.size = 2048
  · have hsI : (b.size : Int) = 2048 := by omega
    rcases findP_cases l a with ⟨hf, _⟩ | ⟨k, x, hf, hx, hxa, _⟩
    · have HE : Hid (fillE l a b = 6) := Lib.hid (by unfold fillE; rw [if_neg (by omega), if_pos (by omega)])
      rw [hf] at CF
      clear hf
      go_enter Try.func41, Try.ntmps41
      go_wp2_with fail
      refine CF.out.mono ?_
      rintro e w1 ⟨rfl, hb1⟩
      go_wp2_with fail
      go_ret
      exact .inl ⟨by rw [HE.out]; decide, ret_int HE.out.symm, hb1⟩
    · have hbp : blkP l a = x.blk := by unfold blkP; rw [hf, Int.toNat_natCast, hx]; rfl
      have hkn : k < n := by have := (List.getElem?_eq_some_iff.1 hx).1; rw [HN.out] at this; exact this
      rw [hf] at CF
      have HX := Lib.hid hx
      have HF := Lib.hid hf
      have hkI : ¬ (k : Int) < 0 := by omega
      have h0k : (0 : Int) ≤ (k : Int) := by omega
      have hknI : (k : Int) < (n : Int) := by omega
      by_cases hbe : x.blk.toList = []
      · have HE : Hid (fillE l a b = 0) := Lib.hid (by unfold fillE; rw [if_neg (by omega), if_neg (by omega), hbp, if_neg (by simp [hbe])])
        have hbe2 : x.blk.toList.isEmpty = true := by rw [hbe]; rfl
        have HSL : Hid (setL l a b = l.set k ⟨x.lba, b⟩) := Lib.hid (by unfold setL; rw [hf, Int.toNat_natCast, hxa])
        clear hf hx hbp
        go_enter Try.func41, Try.ntmps41
        go_wp2_with fail
        refine CF.out.mono ?_
        rintro e w1 ⟨rfl, hb1⟩
        have hr1 := HR.out.below hb1 hlt
        have ho1 := own_all HO.out hb1
        obtain ⟨gl, cap, hv, _, hgl, _⟩ := own_form ho1 (by omega)
        injection hv with hA _ hc
        subst hA hc
        have q := hr1.cell
        obtain ⟨p0, p1⟩ := lastL_cells (l := l) (by rw [HN.out]; exact ho1) HX.out
        have f1 := ho1.frozenAt (k * 2 + 1)
        have HH := Lib.hid (And.intro hr1 (And.intro ho1 hb1))
        clear hr1 ho1 hb1 p0
        go_wp2_with fail
        go_ret
        obtain ⟨hr1, ho1, hb1⟩ := HH.out
        obtain ⟨ho2, hg2⟩ := ho1.stored (k * 2 + 1) (.string b)
        rw [flat_setP HX.out, ← HSL.out] at ho2
        have hne : g ≠ gl := fun e => (own_row_ne ho1 hr1 (by decide)) gl rfl e.symm
        have hr2 := hr1.far (p := ⟨gl, k * 2 + 1, none⟩) hne (.string b)
        refine .inr ⟨HE.out, rfl, ⟨some ⟨gl, 0, none⟩, cl, ?_, ?_⟩, ((Two.refl w g (some gl)).below hb1).grown hg2 (.inl rfl)⟩
        · rw [setL_length, HN.out]; exact hr2
        · rw [setL_length, HN.out]; exact ho2
      · have HE : Hid (fillE l a b = 5) := Lib.hid (by unfold fillE; rw [if_neg (by omega), if_neg (by omega), hbp, if_pos hbe])
        have hbe2 : x.blk.toList.isEmpty = false := isE_false hbe
        clear hf hx hbp hbe
        go_enter Try.func41, Try.ntmps41
        go_wp2_with fail
        refine CF.out.mono ?_
        rintro e w1 ⟨rfl, hb1⟩
        have hr1 := HR.out.below hb1 hlt
        have ho1 := own_all HO.out hb1
        obtain ⟨gl, cap, hv, _, hgl, _⟩ := own_form ho1 (by omega)
        injection hv with hA _ hc
        subst hA hc
        have q := hr1.cell
        obtain ⟨p0, p1⟩ := lastL_cells (l := l) (by rw [HN.out]; exact ho1) HX.out
        clear hr1 ho1 p0
        go_wp2_with fail
        go_ret
        exact .inl ⟨by rw [HE.out]; decide, ret_int HE.out.symm, hb1⟩
  · have hsI : ¬ (b.size : Int) = 2048 := by omega
    have HE : Hid (fillE l a b = 1) := Lib.hid (by unfold fillE; rw [if_pos hs])
    go_enter Try.func41, Try.ntmps41
    go_wp2_with fail
    go_ret
    exact .inl ⟨by rw [HE.out]; decide, ret_int HE.out.symm, Below.refl _ _⟩
set_option maxHeartbeats 2000000 in
theorem pblock_any (base0 g : Nat) (st ba : Int) (l : List Pend) (a : Int) (w : World) (h : WtAt w base0 g st ba l) (hl : l.length ≤ 1000000) :
    Calls Try.prog 51 #[.pointer (some ⟨g, 0, none⟩), .int .i64 a] w fun e w' => e = .returned (.tuple #[.string (blkR l a).1, .bool (blkR l a).2]) ∧ Below w.heap.size w w' := by
  have CF := Lib.hid (find_any base0 g st ba l a w h hl)
  obtain ⟨Al, cl, hr, ho⟩ := h
  have HR := Lib.hid hr
  have HO := Lib.hid ho
  have hlt := hr.lt
  obtain ⟨n, hn⟩ : ∃ n, l.length = n := ⟨_, rfl⟩
  have HN := Lib.hid hn
  rw [hn] at hl HR HO
  clear hr ho hn
  rcases findP_cases l a with ⟨hf, _⟩ | ⟨k, x, hf, hx, hxa, _⟩
  · have HE : Hid (blkR l a = (blankS, false)) := Lib.hid (by unfold blkR; rw [if_pos (.inl (by omega))])
    rw [hf] at CF
    clear hf
    rw [HE.out]
    go_enter Try.func51, Try.ntmps51
    go_wp2_with fail
    refine CF.out.mono ?_
    rintro e w1 ⟨rfl, hb1⟩
    go_wp2_with fail
    go_ret2
    exact ⟨rfl, hb1⟩
  · have hbp : blkP l a = x.blk := by unfold blkP; rw [hf, Int.toNat_natCast, hx]; rfl
    have hkn : k < n := by have := (List.getElem?_eq_some_iff.1 hx).1; rw [HN.out] at this; exact this
    rw [hf] at CF
    have HX := Lib.hid hx
    have hkI : ¬ (k : Int) < 0 := by omega
    have h0k : (0 : Int) ≤ (k : Int) := by omega
    have hknI : (k : Int) < (n : Int) := by omega
    by_cases hbe : x.blk.toList = []
    · have HE : Hid (blkR l a = (blankS, false)) := Lib.hid (by unfold blkR; rw [hbp, if_pos (.inr hbe)])
      have hbe2 : x.blk.toList.isEmpty = true := by rw [hbe]; rfl
      clear hf hx hbp
      rw [HE.out]
      go_enter Try.func51, Try.ntmps51
      go_wp2_with fail
      refine CF.out.mono ?_
      rintro e w1 ⟨rfl, hb1⟩
      have hr1 := HR.out.below hb1 hlt
      have ho1 := own_all HO.out hb1
      obtain ⟨gl, cap, hv, _, hgl, _⟩ := own_form ho1 (by omega)
      injection hv with hA _ hc
      subst hA hc
      have q := hr1.cell
      obtain ⟨p0, p1⟩ := lastL_cells (l := l) (by rw [HN.out]; exact ho1) HX.out
      clear hr1 ho1 p0
      go_wp2_with fail
      go_ret2
      exact ⟨rfl, hb1⟩
    · have HE : Hid (blkR l a = (x.blk, true)) := Lib.hid (by unfold blkR; rw [hbp, if_neg (by simp [hbe]; omega)])
      have hbe2 : x.blk.toList.isEmpty = false := isE_false hbe
      clear hf hx hbp hbe
      rw [HE.out]
      go_enter Try.func51, Try.ntmps51
      go_wp2_with fail
      refine CF.out.mono ?_
      rintro e w1 ⟨rfl, hb1⟩
      have hr1 := HR.out.below hb1 hlt
      have ho1 := own_all HO.out hb1
      obtain ⟨gl, cap, hv, _, hgl, _⟩ := own_form ho1 (by omega)
      injection hv with hA _ hc
      subst hA hc
      have q := hr1.cell
      obtain ⟨p0, p1⟩ := lastL_cells (l := l) (by rw [HN.out]; exact ho1) HX.out
      clear hr1 ho1 p0
      go_wp2_with fail
      go_ret2
      exact ⟨rfl, hb1⟩
end Go.Proofs.Ytdmdfpdigoijoaa
