/-
  Chapter 52: the law PacketwriterFinds: plain words, and what Append leaves alone.
-/
import Derived.Test.YtdmdfpdigoijoaaPwP2
import Derived.Test.YtdmdfpdigoijoaaAppAny
namespace Go.Proofs.Ytdmdfpdigoijoaa
open Go.RowKit
set_option linter.unusedVariables false

theorem own_two {w w' : World} {base g : Nat} {t e ep : TypeId} {size n b0 sp np : Nat} {v vp : Value} {cs : Array Value} {xs xp : List Value} (h : w.ownsRow base e size v n xs) (ht : Two w w' g vp.ownBlock) (hg : RowAt w g t cs) (hp : w.ownsRow b0 ep sp vp np xp) (h1 : e ≠ t) (h2 : e ≠ ep) : w'.ownsRow base e size v n xs := by
  refine ⟨h.1, ?_⟩
  have hk := own_row_ne h hg h1
  have hk2 := own_ne h hp h2
  rcases h.2 with h3 | ⟨k, cap, cur, hv, hb, hh, r⟩
  · exact .inl h3
  · have hlt : k < w.heap.size := (Array.getElem?_eq_some_iff.1 hh).1
    refine .inr ⟨k, cap, cur, hv, hb, ?_, r⟩
    rw [ht.block k hlt (hk k (by rw [hv]; rfl)) (hk2 k (by rw [hv]; rfl))]
    exact hh
theorem SlAt.two2 {w w' : World} {B g : Nat} {r : Option Nat} {A : Option Addr} {l : List ByteArray} {t : TypeId} {cs : Array Value} (h : SlAt w B A (strV l)) (hB : B ≤ w.heap.size) (ht : Two w w' g r) (hg : RowAt w g t cs) (hcs : ∀ (i : Nat) (s : ByteArray), cs[i]? ≠ some (Value.string s)) (hr : ∀ k, r = some k → B ≤ k) : SlAt w' B A (strV l) := fun j u hu => by
  obtain ⟨b, off, ea, hb, hc⟩ := h j u hu
  refine ⟨b, off, ea, hb, ?_⟩
  have hne : b ≠ g := by
    intro e
    subst e
    rw [hg.cell] at hc
    unfold strV at hu
    rw [List.getElem?_map] at hu
    obtain ⟨s, _, rfl⟩ := Option.map_eq_some_iff.1 hu
    exact hcs _ _ hc
  exact (World.cell?_of_block (ht.block b (by omega) hne (fun e => by have := hr b e.symm; omega))).trans hc
theorem wt_nostr {st ba : Int} {A : Option Addr} {n c : Nat} : ∀ (i : Nat) (s : ByteArray), (#[.int .i64 st, .int .i64 ba, .slice A n c] : Array Value)[i]? ≠ some (Value.string s) := by
  intro i s h
  match i with
  | 0 => simp at h
  | 1 => simp at h
  | 2 => simp at h
  | k + 3 => simp at h
theorem elOk_blankT : elOk blankS = true := by
  unfold elOk
  rw [decide_eq_true (show blankS.toList = [] by rw [ByteArray.toList_eq]; rfl)]
  rfl
theorem elOk_blkT {b : ByteArray} (h : blkOk b = true) : elOk b = true := by unfold elOk; rw [h]; simp
structure FiP (st ba : Int) (img : Img) (at0 : List Int) (bl0 : List ByteArray) : Prop where
  len : at0.length = bl0.length
  inc : at0.Pairwise (· < ·)
  each : ∀ a ∈ at0, 0 ≤ a ∧ a < ba ∧ usB st a = true
  found : ∀ (i : Nat) (a : Int) (b : ByteArray), at0[i]? = some a → bl0[i]? = some b → img[a.toNat]? = some b
  il : (img.length : Int) ≤ ba
  ie : img.all elOk = true
theorem FiP.start {st ba : Int} (h : 0 ≤ ba) : FiP st ba [] [] [] := ⟨rfl, List.Pairwise.nil, fun a ha => (List.not_mem_nil ha).elim, fun i a b h => by simp at h, by simpa using h, rfl⟩
theorem open_nil {l : List Pend} (h : ∀ x ∈ l, blkOk x.blk = true) : openL l = [] := by
  unfold openL
  rw [List.filter_eq_nil_iff.2]
  · rfl
  · intro x hx
    have := blk_ne (h x hx)
    simpa using this
theorem FiP.flush {st ba : Int} {img : Img} {at0 : List Int} {bl0 : List ByteArray} {l : List Pend} {ctl : ByteArray} (h : FiP st ba img at0 bl0) (hk : Wok st ba l) (hb : ∀ x ∈ l, blkOk x.blk = true) (hc : ctl.toList = [] ∨ blkOk ctl = true) (hE : ctlL st ba l + 1 ≤ 4096) :
    FiP st (ctlL st ba l + 1) (img ++ List.replicate (ba.toNat - img.length) blankS ++ flAll st ba l ctl) (at0 ++ l.map (·.lba)) (bl0 ++ l.map (·.blk)) ∧
    (ctl.toList ≠ [] → (img ++ List.replicate (ba.toNat - img.length) blankS ++ flAll st ba l ctl)[(ctlL st ba l).toNat]? = some ctl) ∧ ((img ++ List.replicate (ba.toNat - img.length) blankS ++ flAll st ba l ctl).length : Int) = ctlL st ba l + 1 := by
  have hct := hk.ctl
  have h0 : 0 ≤ ba := by have := hk.st0; have := hk.stba; omega
  have hil := h.il
  have hpre : (img ++ List.replicate (ba.toNat - img.length) blankS).length = ba.toNat := by rw [List.length_append, List.length_replicate]; omega
  have hlen : ((img ++ List.replicate (ba.toNat - img.length) blankS ++ flAll st ba l ctl).length : Int) = ctlL st ba l + 1 := by
    rw [List.length_append, hpre, flAll_length]; omega
  have hget : ∀ (a : Int), ba ≤ a → (img ++ List.replicate (ba.toNat - img.length) blankS ++ flAll st ba l ctl)[a.toNat]? = (flAll st ba l ctl)[(a - ba).toNat]? := fun a ha => by
    rw [List.getElem?_append_right (by rw [hpre]; omega), hpre, show a.toNat - ba.toNat = (a - ba).toNat by omega]
  refine ⟨⟨?_, ?_, ?_, ?_, by omega, ?_⟩, fun hcn => ?_, hlen⟩
  · rw [List.length_append, List.length_append, List.length_map, List.length_map, h.len]
  · refine List.pairwise_append.2 ⟨h.inc, hk.inc, fun x hx y hy => ?_⟩
    obtain ⟨z, hz, rfl⟩ := List.mem_map.1 hy
    have := (h.each x hx).2.1
    have := (hk.each z hz).1
    omega
  · intro a ha
    rcases List.mem_append.1 ha with ha | ha
    · have := h.each a ha
      exact ⟨this.1, by omega, this.2.2⟩
    · obtain ⟨z, hz, rfl⟩ := List.mem_map.1 ha
      have h1 := hk.each z hz
      have h2 := hk.le_last z hz
      exact ⟨by omega, by omega, h1.2.1⟩
  · intro i a b ha hb'
    rcases Nat.lt_or_ge i at0.length with hi | hi
    · rw [List.getElem?_append_left hi] at ha
      rw [List.getElem?_append_left (by rw [← h.len]; exact hi)] at hb'
      have hf := h.found i a b ha hb'
      rw [List.append_assoc, List.getElem?_append_left (List.getElem?_eq_some_iff.1 hf).1]
      exact hf
    · rw [List.getElem?_append_right hi, List.getElem?_map] at ha
      rw [List.getElem?_append_right (by rw [← h.len]; exact hi), List.getElem?_map, ← h.len] at hb'
      obtain ⟨z, hz, rfl⟩ := Option.map_eq_some_iff.1 ha
      rw [hz] at hb'
      injection hb' with hb'
      have hzm := List.mem_of_getElem? hz
      rw [hget _ (hk.each z hzm).1, flAll_pend hk z hzm]
      exact congrArg some hb'
  · rw [List.all_append, List.all_append, h.ie]
    have h1 := flAll_ok (ctl := ctl) hk (open_nil hb) hc
    have h2 : (flAll st ba l ctl).all elOk = true := List.all_eq_true.2 fun b hb => elOk_blkT (List.all_eq_true.1 h1 b hb)
    have h3 : (List.replicate (ba.toNat - img.length) blankS).all elOk = true := List.all_eq_true.2 fun b hb => by rw [List.eq_of_mem_replicate hb]; exact elOk_blankT
    rw [h2, h3]
    rfl
  · rw [hget _ hct.1]
    exact flAll_last hk hcn
end Go.Proofs.Ytdmdfpdigoijoaa
