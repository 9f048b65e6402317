/-
  Chapter 52: the law PacketwriterFinds: the state of its walk.
-/
import Derived.Test.YtdmdfpdigoijoaaPwFi1
namespace Go.Proofs.Ytdmdfpdigoijoaa
open Go.RowKit
set_option linter.unusedVariables false

/-- The writer, the image, the addresses and their blocks. -/
structure FiS (w0 : World) (g : Nat) (st ba : Int) (l : List Pend) (img : Img) (vI : Value) (at0 : List Int) (vA : Value) (bl0 : List ByteArray) (vB : Value) (wr : World) : Prop where
  bel : Below w0.heap.size w0 wr
  gb : w0.heap.size ≤ g
  wt : WtAt wr w0.heap.size g st ba l
  im : wr.ownsRow w0.heap.size 9 1 vI img.length (strV img)
  at_ : wr.ownsRow w0.heap.size 3 1 vA at0.length (intV at0)
  bl : wr.ownsRow w0.heap.size 9 1 vB bl0.length (strV bl0)
  ne : ∀ k, vI.ownBlock = some k → vB.ownBlock ≠ some k
section
variable {w0 wr w' : World} {g : Nat} {st ba : Int} {l : List Pend} {img : Img} {vI : Value} {at0 : List Int} {vA : Value} {bl0 : List ByteArray} {vB : Value}
theorem FiS.below (h : FiS w0 g st ba l img vI at0 vA bl0 vB wr) (hb : Below wr.heap.size wr w') : FiS w0 g st ba l img vI at0 vA bl0 vB w' :=
  ⟨h.bel.trans (hb.mono h.bel.size), h.gb, h.wt.below' hb, own_all h.im hb, own_all h.at_ hb, own_all h.bl hb, h.ne⟩
theorem FiS.two {Al : Option Addr} {cl : Nat} {ba' : Int} {l' : List Pend} (h : FiS w0 g st ba l img vI at0 vA bl0 vB wr) (hr : RowAt wr g 109 #[.int .i64 st, .int .i64 ba, .slice Al l.length cl]) (ho : wr.ownsRow w0.heap.size 114 2 (.slice Al l.length cl) l.length (flat encP l))
    (ht : Two wr w' g (Value.slice Al l.length cl).ownBlock) (hw : WtAt w' w0.heap.size g st ba' l') : FiS w0 g st ba' l' img vI at0 vA bl0 vB w' :=
  ⟨h.bel.trans (ht.toBelow h.bel.size h.gb (fun k hk => (ho.lt k hk).1)), h.gb, hw, own_two h.im ht hr ho (by decide) (by decide), own_two h.at_ ht hr ho (by decide) (by decide), own_two h.bl ht hr ho (by decide) (by decide), h.ne⟩
theorem Two.weak {w w' : World} {g : Nat} {r : Option Nat} (h : Two w w' g none) : Two w w' g r := ⟨h.os, h.tape, h.output, h.size, fun k hk h1 _ => h.block k hk h1 (by simp)⟩
theorem wt_grown {base base' size n : Nat} {e : TypeId} {v : Value} {xs : List Value} (h : WtAt wr base g st ba l) (ho : wr.ownsRow base' e size v n xs) (hg : wr.grownBy w' v.ownBlock) (h1 : e ≠ 109) (h2 : e ≠ 114) : WtAt w' base g st ba l := by
  obtain ⟨A, c, hr, hp⟩ := h
  exact ⟨A, c, hr.grown hg (fun e' => own_row_ne ho hr h1 g e'.symm rfl), own_grown hp hg (fun k hk e' => own_ne ho hp h2 k e'.symm hk.symm)⟩
theorem FiS.grownA {at1 : List Int} {vA1 : Value} (h : FiS w0 g st ba l img vI at0 vA bl0 vB wr) (hg : wr.grownBy w' vA.ownBlock) (h1 : w'.ownsRow w0.heap.size 3 1 vA1 at1.length (intV at1)) : FiS w0 g st ba l img vI at1 vA1 bl0 vB w' :=
  ⟨h.bel.grown hg h.bel.size (fun k hk => (h.at_.lt k hk).1), h.gb, wt_grown h.wt h.at_ hg (by decide) (by decide), own_grown h.im hg (own_ne h.im h.at_ (by decide)), h1, own_grown h.bl hg (own_ne h.bl h.at_ (by decide)), h.ne⟩
theorem FiS.grownB {bl1 : List ByteArray} {vB1 : Value} (h : FiS w0 g st ba l img vI at0 vA bl0 vB wr) (hg : wr.grownBy w' vB.ownBlock) (h1 : w'.ownsRow w0.heap.size 9 1 vB1 bl1.length (strV bl1)) (hn : vB1.ownBlock = vB.ownBlock ∨ vB1.ownBlock = some wr.heap.size) : FiS w0 g st ba l img vI at0 vA bl1 vB1 w' :=
  ⟨h.bel.grown hg h.bel.size (fun k hk => (h.bl.lt k hk).1), h.gb, wt_grown h.wt h.bl hg (by decide) (by decide), own_grown h.im hg (fun k hk e => h.ne k hk e.symm), own_grown h.at_ hg (own_ne h.at_ h.bl (by decide)), h1, fun k hk => by
    rcases hn with hn | hn
    · rw [hn]; exact h.ne k hk
    · rw [hn]
      intro e
      injection e with e
      have := (h.im.lt k hk).2
      omega⟩
theorem FiS.image {img1 : Img} {vI1 : Value} (h : FiS w0 g st ba l img vI at0 vA bl0 vB wr) (hb : Below wr.heap.size wr w') (h1 : w'.ownsRow wr.heap.size 9 1 vI1 img1.length (strV img1)) : FiS w0 g st ba l img1 vI1 at0 vA bl0 vB w' :=
  ⟨h.bel.trans (hb.mono h.bel.size), h.gb, h.wt.below' hb, own_base h1 h.bel.size, own_all h.at_ hb, own_all h.bl hb, fun k hk e => by
    have h2 := (h1.lt k hk).1
    have h3 := (h.bl.lt k e).2
    omega⟩
end
/-- What a flush does to it. -/
theorem fi_flush {w0 wr w' : World} {g : Nat} {st ba : Int} {l : List Pend} {img : Img} {vI : Value} {at0 : List Int} {vA : Value} {bl0 : List ByteArray} {vB : Value} {ctl : ByteArray} {e : Ending}
    (hS : FiS w0 g st ba l img vI (at0 ++ l.map (·.lba)) vA (bl0 ++ l.map (·.blk)) vB wr) (hP : FiP st ba img at0 bl0) (hk : Wok st ba l) (hb : ∀ x ∈ l, blkOk x.blk = true) (hc : ctl.toList = [] ∨ blkOk ctl = true) (hE : ctlL st ba l + 1 ≤ 4096) (h : FlushAll g st ba l ctl wr e w') :
    ∃ (ws : List Wr) (A7 : Option Addr) (c7 : Nat) (R : Img) (ba' : Int), e = .returned (.tuple #[.slice A7 ws.length c7, .int .i64 0]) ∧ WrAt w' w'.heap.size A7 ws ∧ FiS w0 g st ba' [] img vI (at0 ++ l.map (·.lba)) vA (bl0 ++ l.map (·.blk)) vB w' ∧ FiP st ba' R (at0 ++ l.map (·.lba)) (bl0 ++ l.map (·.blk)) ∧ Wok st ba' [] ∧
      onceB img ws = true ∧ cutR img ws ((nSt ws : Nat) : Int) = (R, 0) ∧ nSt ws ≤ 4096 ∧ ws.length ≤ 1000 ∧ (∀ x ∈ ws, x.bl.length ≤ 1000) ∧ (ctl.toList ≠ [] → R[(ctlL st ba l).toNat]? = some ctl) ∧ ba ≤ ba' ∧ ba' ≤ ctlL st ba l + 1 := by
  have ho := open_nil hb
  have hct := hk.ctl
  have hsz : ¬ (ctl.toList ≠ [] ∧ ctl.size ≠ 2048) := by
    rintro ⟨h1, h2⟩
    rcases hc with hc | hc
    · exact h1 hc
    · exact h2 (of_decide_eq_true hc)
  rcases h with ⟨h1, rfl, hbl⟩ | ⟨_, h0, hE4, _, gb, m, A, c, hm0, hm, rfl, hwr, hrw, ht⟩
  · have h0 : l = [] ∧ ctl.toList = [] := by
      rcases h1 with h1 | h1
      · by_cases h0 : l = [] ∧ ctl.toList = []
        · exact h0
        · exact absurd (by unfold flE; rw [if_neg hsz, if_neg (by simp [ho]), if_neg h0, if_neg (by omega)]) h1
      · exact h1
    have hfe : flE st ba l ctl = 0 := by unfold flE; rw [if_neg hsz, if_neg (by simp [ho]), if_pos h0]
    obtain ⟨rfl, h02⟩ := h0
    rw [hfe]
    have hv : validB img [] = true := by
      have := hP.il
      have := hk.ba4
      unfold validB
      rw [hP.ie, decide_eq_true (show img.length ≤ 4096 by omega)]
      rfl
    refine ⟨[], none, 0, img, ba, rfl, ⟨SlAt.nil _ _ _, fun x hx => (List.not_mem_nil hx).elim⟩, hS.below hbl, ?_, hk, ?_, ?_, by decide, by decide, fun x hx => (List.not_mem_nil hx).elim, fun hn => absurd h02 hn, Int.le_refl _, by omega⟩
    · simpa using hP
    · unfold onceB; rw [hv]; rfl
    · unfold cutR
      rw [if_pos hv, if_neg (by simp [nSt, stepsL])]
      rfl
  · obtain ⟨Al, cl, hrow, hown⟩ := hS.wt
    have hrec := flush_rec (gb := gb) hk ho hc hm0 hm hE hP.il hP.ie
    obtain ⟨hp1, hp2, hp3⟩ := hP.flush hk hb hc hE
    have hm8 : m ≤ 600 := by have := hk.st0; have := hk.stba; omega
    refine ⟨flWs gb ba (flAll st ba l ctl) m m, A, c, _, ctlL st ba l + 1, by rw [flWs_length], hwr, ?_, hp1, hk.flushed hE, hrec.o, hrec.r, hrec.n, by rw [flWs_length]; omega, ?_, hp2, by omega, Int.le_refl _⟩
    · exact hS.two hrow hown ht.weak ⟨none, 0, hrw, World.ownsRow_nil _ _ _ _⟩
    · intro x hx
      unfold flWs at hx
      obtain ⟨j, hj, rfl⟩ := List.mem_map.1 hx
      unfold flW
      rw [List.length_take]
      omega
theorem moreP_lba (l : List Pend) (out : List Int) (bl : List ByteArray) : (moreP l out bl out.length).map (·.lba) = l.map (·.lba) ++ out := by
  unfold moreP
  rw [List.map_append, List.map_map]
  congr 1
  apply List.ext_getElem
  · simp
  · intro i hi _
    simp at hi
    simp [hi]
theorem moreP_blk (l : List Pend) (out : List Int) (bl : List ByteArray) (h : bl.length = out.length) : (moreP l out bl out.length).map (·.blk) = l.map (·.blk) ++ bl := by
  unfold moreP
  rw [List.map_append, List.map_map]
  congr 1
  apply List.ext_getElem
  · simp [h]
  · intro i hi h2
    simp at hi
    simp [h2]
theorem moreP_ok {l : List Pend} {out : List Int} {bl : List ByteArray} (h : bl.length = out.length) (hl : ∀ x ∈ l, blkOk x.blk = true) (hb : ∀ b ∈ bl, blkOk b = true) : ∀ x ∈ moreP l out bl out.length, blkOk x.blk = true := by
  intro x hx
  have : x.blk ∈ (moreP l out bl out.length).map (·.blk) := List.mem_map_of_mem hx
  rw [moreP_blk l out bl h] at this
  rcases List.mem_append.1 this with h1 | h1
  · obtain ⟨y, hy, e⟩ := List.mem_map.1 h1
    rw [← e]; exact hl y hy
  · exact hb _ h1
theorem nextL_more {ba B : Int} {l : List Pend} {out : List Int} {bl : List ByteArray} (h1 : nextL ba l ≤ B + 1) (h2 : ∀ x ∈ out, x ≤ B) : nextL ba (moreP l out bl out.length) ≤ B + 1 := by
  unfold nextL
  cases hq : (moreP l out bl out.length).getLast? with
  | none =>
    have := List.getLast?_eq_none_iff.1 hq
    have hl : l = [] := by
      unfold moreP at this
      exact (List.append_eq_nil_iff.1 this).1
    rw [hl] at h1
    exact h1
  | some x =>
    dsimp only
    have hm := List.mem_of_getLast? hq
    unfold moreP at hm hq
    cases out with
    | nil =>
      simp at hq
      unfold nextL at h1
      rw [hq] at h1
      exact h1
    | cons a t =>
      have hl2 : x.lba ∈ (a :: t) := by
        have e := congrArg (Option.map (·.lba)) hq
        rw [← List.getLast?_map] at e
        have hml := moreP_lba l (a :: t) bl
        unfold moreP at hml
        rw [hml, List.getLast?_append] at e
        have : (a :: t).getLast? = some ((a :: t).getLast (by simp)) := List.getLast?_eq_some_getLast _
        rw [this] at e
        simp at e
        rw [← e]
        exact List.getLast_mem _
      have := h2 _ hl2
      omega
theorem oneCell_int (l : List Int) : ∀ u ∈ intV l, u.oneCell' = true := by
  intro u hu
  unfold intV at hu
  obtain ⟨n, _, rfl⟩ := List.mem_map.1 hu
  rfl
theorem intV_append (l m : List Int) : intV (l ++ m) = intV l ++ intV m := by unfold intV; rw [List.map_append]
theorem strV_append (l m : List ByteArray) : strV (l ++ m) = strV l ++ strV m := by unfold strV; rw [List.map_append]
end Go.Proofs.Ytdmdfpdigoijoaa
