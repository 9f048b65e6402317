/-
  Chapter 24: Groups of the reference.
-/
import Derived.Test.YtnomodbcpndocaaSuL
import Derived.Deep.Cut
namespace Go.Proofs.Ytnomodbcpndocaa
open Go.RowKit
set_option linter.unusedVariables false

theorem info_ents : (Try.prog.info? 22).map (fun i => (i.zero, i.size, i.bytes)) = some (some (.slice none 0 0), 1, 24) := by kernel_rfl
theorem encE_one (l : List Ent) : ∀ u ∈ flat encE l, u.oneCell' = true := by
  intro u hu
  unfold flat at hu
  obtain ⟨x, _, hx⟩ := List.mem_flatMap.1 hu
  simp only [encE, List.mem_cons, List.not_mem_nil, or_false] at hx
  rcases hx with rfl | rfl | rfl <;> rfl
def sliceN : Value → Nat
  | .slice _ n _ => n
  | _ => 0
def grM (n : Nat) (r : Int) : Nat := n + (if r = 2048 then 0 else 1)
theorem any_take_no {p : Ent → Bool} {l : List Ent} {k : Nat} {x : Ent} (h : l[k]? = some x) (ha : (l.take k).any p = false) (hx : p x = false) : (l.take (k + 1)).any p = false := by
  rw [List.take_add_one, h, Option.toList_some, List.any_append, ha]
  simp [hx]
theorem any_hit {p : Ent → Bool} {l : List Ent} {k : Nat} {x : Ent} (h : l[k]? = some x) (hx : p x = true) : l.any p = true := List.any_eq_true.2 ⟨x, List.mem_of_getElem? h, hx⟩
/-- What Groups answers. -/
def GrRes (L : List Ent) (R : Int) (w : World) (e : Ending) (w' : World) : Prop :=
  Below w.heap.size w w' ∧ ∃ A c hs, e = .returned (.tuple #[.slice A (grR L R).length c, .int .i64 (grE L R)]) ∧ (grR L R).length ≤ c ∧ SlAt w' w'.heap.size A hs ∧ GrAt w' w'.heap.size hs (grR L R)
theorem GrRes.no {L : List Ent} {R E : Int} {w w' : World} (hE : grE L R = E) (h0 : E ≠ 0) (hb : Below w.heap.size w w') : GrRes L R w (.returned (.tuple #[.slice none 0 0, .int .i64 E])) w' := by
  have hr : grR L R = [] := by unfold grR; rw [if_neg (by rw [hE]; exact h0)]
  refine ⟨hb, none, 0, [], ?_, ?_, ?_, ?_⟩
  · rw [hr, hE]; rfl
  · rw [hr]; exact Nat.le_refl _
  · exact SlAt.nil _ _ _
  · rw [hr]; exact ⟨rfl, fun i l h => by simp at h⟩
/-- Between two rounds. -/
def GrLoop (L : List Ent) (R : Int) (w : World) (lv rv o : Value) (wr : World) : Prop :=
  ∃ (A : Option Addr) (c : Nat) (l : List Ent) (r : Int) (f : Nat) (acc : List (List Ent)) (hs : List Value),
    lv = .slice A l.length c ∧ rv = .int .i64 r ∧ EnAt w w.heap.size A l ∧ l.length ≤ c ∧ Hid (∀ x ∈ l, errE x = 0) ∧ (r < sizeL l → 28 ≤ r) ∧ 0 ≤ r ∧ r ≤ 2048 ∧
    grM l.length r ≤ f ∧ acc.length + grM l.length r ≤ 1025 ∧ Hid (grL L R = acc ++ grF f l r) ∧ wr.ownsRow w.heap.size 22 1 o acc.length hs ∧ RowsE wr w.heap.size wr.heap.size hs acc ∧ Below w.heap.size w wr
/-- What follows when a group has been appended. -/
theorem gr_more {l : List Ent} {r : Int} {f : Nat} {acc : List (List Ent)} (he : ∀ x ∈ l, errE x = 0) (h28 : 28 ≤ r) (hr : r ≤ 2048) (hlt : r < sizeL l) (hf : grM l.length r ≤ f) (ha : acc.length + grM l.length r ≤ 1025) :
    ∃ f', f = f' + 1 ∧ grM (l.drop (frontN l (r - 28))).length 2048 ≤ f' ∧ (acc ++ [l.take (frontN l (r - 28))]).length + grM (l.drop (frontN l (r - 28))).length 2048 ≤ 1025 ∧ grM (l.drop (frontN l (r - 28))).length 2048 < grM l.length r ∧ frontN l (r - 28) < l.length := by
  have h1 := frontN_short (l := l) (r := r - 28) (by omega) (by omega)
  have h2 : r = 2048 → 0 < frontN l (r - 28) := fun h => frontN_pos (by omega) (by omega) he
  have h3 : grM (l.drop (frontN l (r - 28))).length 2048 < grM l.length r := by
    unfold grM
    rw [if_pos rfl, List.length_drop]
    split
    · rename_i h
      have := h2 h
      omega
    · omega
  refine ⟨f - 1, by omega, by omega, ?_, h3, h1⟩
  rw [List.length_append, List.length_singleton]
  omega
theorem gr_step {w W w3 w4 : World} {hs : List Value} {acc : List (List Ent)} {g : List Ent} {o vi v4 : Value} {n : Nat} (hg : g.length = n) (hbW : Below W.heap.size W w3) (HR : RowsE W w.heap.size W.heap.size hs acc) (ho : w3.ownsRow w.heap.size 22 1 o acc.length hs)
    (hi : w3.ownsRow w.heap.size 41 3 vi n (flat encE g)) (h4 : w4.ownsRow w.heap.size 22 1 v4 (acc.length + 1) (hs ++ [vi])) (hg4 : w3.grownBy w4 o.ownBlock) (hb4 : Below w.heap.size w3 w4) (hb : Below w.heap.size w W) :
    w4.ownsRow w.heap.size 22 1 v4 (acc ++ [g]).length (hs ++ [vi]) ∧ RowsE w4 w.heap.size w4.heap.size (hs ++ [vi]) (acc ++ [g]) ∧ Below w.heap.size w w4 := by
  subst hg
  refine ⟨by rw [List.length_append, List.length_singleton]; exact h4, ?_, (hb.trans (hbW.mono hb.size)).trans hb4⟩
  have h1 := (HR.all hbW).snoc hi (fun k hk => (hi.lt k hk).2)
  exact (h1.grown ho (by decide) hg4).mono hg4.size

set_option maxRecDepth 100000 in
set_option maxHeartbeats 4000000 in
theorem rgroups_any (A : Option Addr) (c : Nat) (L : List Ent) (R : Int) (w : World) (h : EnAt w w.heap.size A L) (hc : L.length ≤ c) :
    Calls Try.prog 19 #[.slice A L.length c, .int .i64 R] w (GrRes L R w) := by
  have HS := Lib.hid h
  have HC := Lib.hid (rcheck_any A c L w h)
  have HZ : Hid (L.length ≤ 9223372036854775807 → Calls Try.prog 16 #[.slice A L.length c] w fun e w' => e = .returned (.int .i64 (wrap64 (sizeL L : Nat))) ∧ w = w') := Lib.hid fun hl => rsize_any A c L w h hl
  obtain ⟨n, hn⟩ : ∃ n, L.length = n := ⟨_, rfl⟩
  have HN := Lib.hid hn
  rw [hn] at HC HZ hc ⊢
  obtain ⟨E, hE⟩ : ∃ E, checkL L = E := ⟨_, rfl⟩
  have HE := Lib.hid hE
  rw [hE] at HC
  clear h hn hE
  by_cases h0 : E = 0
  · subst h0
    have hn2 : n ≤ 1024 := by
      have hch := HE.out
      unfold checkL at hch
      split at hch
      · cases hch
      · have := HN.out; omega
    have herr : errL L = 0 := by
      have hch := HE.out
      unfold checkL at hch
      rwa [if_neg (by have := HN.out; omega)] at hch
    have HEA := Lib.hid (errL_each herr)
    have hsz : sizeL L ≤ 262144 := by
      have := sizeL_le HEA.out
      have := HN.out
      omega
    have HZ2 := Lib.hid (HZ.out (by omega))
    rw [show wrap64 ((sizeL L : Nat) : Int) = ((sizeL L : Nat) : Int) from IntWalk.wrap64_in _ (by omega)] at HZ2
    clear herr HZ
    go_enter Try.func19, Try.ntmps19
    go_wp2_with fail
    refine HC.out.mono ?_
    rintro e w1 ⟨rfl, rfl⟩
    clear HC
    go_wp2_with fail
    go_loop [7] (fun i => ∃ k : Nat, k ≤ n ∧ i = .int .i64 k ∧ Hid ((L.take k).any linkE = false)) (fun i => n - (intOf i).toNat)
    case atStart => exact ⟨0, by omega, rfl, Lib.hid rfl⟩
    case round =>
      obtain ⟨k, hk, rfl, hno⟩ := hrel
      by_cases hlt : k < n
      · obtain ⟨x, hx⟩ : ∃ s, L[k]? = some s := ⟨L[k]'(by rw [HN.out]; exact hlt), List.getElem?_eq_getElem _⟩
        obtain ⟨b, off, hA, hbk⟩ := HS.out.one (by rw [HN.out]; omega)
        subst hA
        obtain ⟨p0, p1, p2⟩ := HS.out.cells rfl hx
        have hltI : (k : Int) < (n : Int) := by omega
        have h0k : (0 : Int) ≤ (k : Int) := by omega
        have HX := Lib.hid hx
        clear hx
        by_cases hce : x.sg = ceS
        · have f1 : x.sg = ⟨#[67, 69]⟩ := hce
          have HG := Lib.hid (show grE L R = 1 by unfold grE; rw [if_pos HE.out, if_pos (any_hit HX.out (by unfold linkE; rw [decide_eq_true hce]; rfl))])
          clear hce
          go_wp2_with fail
          go_ret2
          exact GrRes.no HG.out (by decide) (Below.refl _ _)
        · have f1 : ¬ x.sg = ⟨#[67, 69]⟩ := hce
          have f1b : (x.sg.toList == [67, 69]) = false := by
            rw [beq_eq_false_iff_ne]
            intro h
            refine f1 (ByteArray.ext (Array.ext' ?_))
            rw [← ByteArray.toList_eq]
            exact h
          by_cases hst : x.sg = stS
          · have HG := Lib.hid (show grE L R = 1 by unfold grE; rw [if_pos HE.out, if_pos (any_hit HX.out (by unfold linkE; rw [decide_eq_true hst, Bool.or_true]))])
            have f2 : x.sg = ⟨#[83, 84]⟩ := hst
            clear f1 f1b hce hst
            go_wp2_with fail
            go_ret2
            exact GrRes.no HG.out (by decide) (Below.refl _ _)
          · have f2 : ¬ x.sg = ⟨#[83, 84]⟩ := hst
            have f2b : (x.sg.toList == [83, 84]) = false := by
              rw [beq_eq_false_iff_ne]
              intro h
              refine f2 (ByteArray.ext (Array.ext' ?_))
              rw [← ByteArray.toList_eq]
              exact h
            have hno2 := Lib.hid (any_take_no HX.out hno.out (by unfold linkE; rw [decide_eq_false hce, decide_eq_false hst]; rfl))
            clear hce hst
            go_wp2_with fail
            go_round
            case rel => first | exact ⟨k + 1, by omega, by go_num, hno2⟩ | exact ⟨_, ⟨k + 1, by omega, by simp, hno2⟩, rfl⟩
            case measure => simp [intOf]; omega
      · obtain rfl : k = n := by omega
        have hge : ¬ (k : Int) < (k : Int) := by omega
        rw [List.take_of_length_le (Nat.le_of_eq HN.out)] at hno
        have HG1 : Hid (grE L R = if R < 0 ∨ 254 < R then 2 else if R < sizeL L ∧ R < 28 then 12 else if 64 < (grL L R).length then 7 else 0) := Lib.hid (by unfold grE; rw [if_pos HE.out, if_neg (by rw [hno.out]; decide)])
        clear hno
        by_cases hR : R < 0 ∨ 254 < R
        · have HG := Lib.hid (show grE L R = 2 by rw [HG1.out, if_pos hR])
          by_cases hR1 : R < 0
          · clear hR
            go_wp2_with fail
            go_ret2
            exact GrRes.no HG.out (by decide) (Below.refl _ _)
          · have hR2 : 254 < R := by omega
            clear hR
            go_wp2_with fail
            go_ret2
            exact GrRes.no HG.out (by decide) (Below.refl _ _)
        · have hR1 : ¬ R < 0 := by omega
          have hR2 : ¬ 254 < R := by omega
          have hR3 : 0 ≤ R := by omega
          by_cases hfull : R < sizeL L ∧ R < 28
          · have HG := Lib.hid (show grE L R = 12 by rw [HG1.out, if_neg hR, if_pos hfull])
            obtain ⟨hf1, hf2⟩ := hfull
            have HF1 := Lib.hid hf1
            clear hR
            go_wp2_with fail
            refine HZ2.out.mono ?_
            rintro e w2 ⟨rfl, rfl⟩
            go_wp2_with fail
            go_ret2
            exact GrRes.no HG.out (by decide) (Below.refl _ _)
          · have HG2 : Hid (grE L R = if 64 < (grL L R).length then 7 else 0) := Lib.hid (by rw [HG1.out, if_neg hR, if_neg hfull])
            have hLoop : GrLoop L R w (.slice A k c) (.int .i64 R) (.slice none 0 0) w := by
              refine ⟨A, c, L, R, L.length + 1, [], [], by rw [HN.out], rfl, HS.out, by rw [HN.out]; exact hc, Lib.hid HEA.out, ?_, hR3, by omega, ?_, ?_, Lib.hid rfl, World.ownsRow_nil _ _ _ _, RowsE.nil, Below.refl _ _⟩
              · intro h; omega
              · unfold grM; split <;> omega
              · have := HN.out; unfold grM; rw [List.length_nil]; split <;> omega
            have HLo := Lib.hid hLoop
            clear hR hLoop HG1
            by_cases hbig0 : R < (sizeL L : Int)
            all_goals
              have h28 : R < (sizeL L : Int) → ¬ R < 28 := fun h h' => hfull ⟨h, h'⟩
              first | have h28b := h28 hbig0 | skip
              clear hfull h28
              go_wp2_with fail
              refine HZ2.out.mono ?_
              rintro e w2 ⟨rfl, rfl⟩
              go_wp2_with fail
              go_loopw [0, 1, 8] (fun lv rv o wr => GrLoop L R w lv rv o wr) (fun lv rv o _ => grM (sliceN lv) (intOf rv))
              case atStart => exact HLo.out
              case round =>
                clear HLo HZ2
                obtain ⟨A1, c1, l, r, f, acc, hs, rfl, rfl, hen, hlc, hee, hr28, hr0, hr1, hf, hacc, hgl, hown, hrows, hbel⟩ := hrel
                have hll : l.length ≤ 1025 := by unfold grM at hacc; split at hacc <;> omega
                have hsz1 : sizeL l ≤ 262144 := by
                  have := sizeL_le hee.out
                  omega
                have henw := (hen.below hbel).mono hbel.size
                have CZ := Lib.hid (rsize_any A1 c1 l wr henw (by omega))
                rw [show wrap64 ((sizeL l : Nat) : Int) = ((sizeL l : Nat) : Int) from IntWalk.wrap64_in _ (by omega)] at CZ
                have CF := Lib.hid (front_any A1 c1 l (r - 28) wr henw (by omega) hlc (by omega))
                by_cases hbig : r < (sizeL l : Int)
                · obtain ⟨f', hf', g1, g2, g3, g4⟩ := gr_more hee.out (hr28 hbig) hr1 hbig hf hacc
                  obtain ⟨b, off, hA1, hbk⟩ := hen.one (by omega)
                  subst hA1 hf'
                  have HGL : Hid (grL L R = (acc ++ [l.take (frontN l (r - 28))]) ++ grF f' (l.drop (frontN l (r - 28))) 2048) := Lib.hid (by rw [hgl.out, grF_more (by omega), List.append_assoc]; rfl)
                  have HEN := Lib.hid (hen.drop (frontN l (r - 28)))
                  have HENT := Lib.hid (henw.take (frontN l (r - 28)))
                  have HEE : Hid (∀ x ∈ l.drop (frontN l (r - 28)), errE x = 0) := Lib.hid fun x hx => hee.out x (List.mem_of_mem_drop hx)
                  have HLD : Hid ((l.drop (frontN l (r - 28))).length = l.length - frontN l (r - 28)) := Lib.hid (List.length_drop)
                  have HLT : Hid ((l.take (frontN l (r - 28))).length = frontN l (r - 28)) := Lib.hid (by rw [List.length_take]; omega)
                  have HZD : Hid (sizeL (l.drop (frontN l (r - 28))) ≤ sizeL l) := Lib.hid (by
                    have := sizeL_append (l.take (frontN l (r - 28))) (l.drop (frontN l (r - 28)))
                    rw [List.take_append_drop] at this
                    omega)
                  have H1 := Lib.hid g1
                  have H2 := Lib.hid g2
                  have H3 := Lib.hid g3
                  have hrr := hr28 hbig
                  generalize frontN l (r - 28) = F at *
                  obtain ⟨m, hm⟩ : ∃ m, l.length = m := ⟨_, rfl⟩
                  have HM := Lib.hid hm
                  rw [hm] at CZ CF hlc hll HLD g4 ⊢
                  generalize sizeL l = Z at *
                  have HO := Lib.hid hown
                  have HR := Lib.hid hrows
                  have HB := Lib.hid hbel
                  have hal : acc.length ≤ 1025 := by omega
                  have hFc : (F : Int) ≤ (c1 : Int) := by omega
                  have hFm : (F : Int) ≤ (m : Int) := by omega
                  clear hen henw hm hown hrows hbel g1 g2 g3 hf hacc hr28
                  go_wp2_with fail
                  refine CZ.out.mono ?_
                  rintro e w2 ⟨rfl, rfl⟩
                  clear CZ
                  go_wp2_with fail
                  refine CF.out.mono ?_
                  rintro e w2 ⟨rfl, rfl⟩
                  clear CF
                  have HSL := Lib.hid (SlAt.below HENT.out ((Below.refl wr.heap.size wr).alloc (Nat.le_refl _) (.cells #[] 41)))
                  have HLIT := Lib.hid (World.ownsRow_lit (base := w.heap.size) (size := 3) (e := 41) wr #[] 0 HB.out.size (by unfold maxLen; omega) rfl)
                  have HBS : Hid (w.heap.size ≤ (wr.alloc (.cells #[] 41)).heap.size) := Lib.hid (Nat.le_trans HB.out.size (by simp))
                  have HFL : Hid ((flat encE (l.take F)).length = F * 3) := Lib.hid (by rw [flat_length encE_length, HLT.out])
                  go_wp2_with (first
                    | (at_builtin; refine wpList_appX (s := .tmp 58) (x := .tmp 61) HLIT.out info_ent Try.underlying22 rfl (by decide) HFL.out HSL.out (encE_one _) (by unfold maxLen; omega) (by omega) HBS.out rfl rfl (by rfl) (by rfl) ?_; intro v3 w3 hown3 hg3 _; rw [Nat.zero_add, List.nil_append] at hown3; obtain ⟨A3, c3, hv3⟩ := own_slice hown3; subst hv3; have hbW : Below wr.heap.size wr w3 := ((Below.refl wr.heap.size wr).alloc (Nat.le_refl _) (.cells #[] 41)).grown hg3 (by simp) (fun k hk => Nat.le_of_eq (Option.some.inj hk)); have HOW := Lib.hid (own_all HO.out hbW); have HBW := Lib.hid hbW; have HI3 := Lib.hid hown3; clear hbW hown3 hg3)
                    | (at_builtin; refine wpList_app1H (s := .tmp 57) (x := .tmp 63) HOW.out rfl info_ents Try.underlying33 rfl (by unfold maxLen; omega) (by omega) (Nat.le_trans HB.out.size HBW.out.size) rfl rfl rfl (by rfl) (by rfl) ?_; intro v4 w4 hown4 hb4 hg4; obtain ⟨A4, c4, hv4⟩ := own_slice hown4; subst hv4))
                  have hst := gr_step (g := l.take F) HLT.out HBW.out HR.out HOW.out HI3.out hown4 hg4 hb4 HB.out
                  refine ⟨⟨some ⟨b, off + F * 3, none⟩, c1 - F, l.drop F, 2048, f', acc ++ [l.take F], _, by rw [HLD.out], rfl, HEN.out, by rw [HLD.out]; omega, HEE, fun _ => by omega, by omega, by omega, H1.out, H2.out, HGL, hst.1, hst.2.1, hst.2.2⟩, ?_⟩
                  show grM (m - F) 2048 < grM m r
                  have := H3.out
                  rwa [HLD.out, HM.out] at this
                · have HGL : Hid (grL L R = acc ++ [l]) := Lib.hid (by rw [hgl.out, grF_end (by omega)])
                  obtain ⟨m, hm⟩ : ∃ m, l.length = m := ⟨_, rfl⟩
                  have HM := Lib.hid hm
                  rw [hm] at CZ hlc hll ⊢
                  generalize sizeL l = Z at *
                  have HO := Lib.hid hown
                  have HR := Lib.hid hrows
                  have HB := Lib.hid hbel
                  have HENT := Lib.hid henw
                  have hal : acc.length ≤ 1025 := by omega
                  clear hen henw hm hown hrows hbel hf hacc hr28 hgl CF
                  go_wp2_with fail
                  refine CZ.out.mono ?_
                  rintro e w2 ⟨rfl, rfl⟩
                  clear CZ
                  go_upto_region 19 with fail
                  have HSL := Lib.hid (SlAt.below HENT.out ((Below.refl wr.heap.size wr).alloc (Nat.le_refl _) (.cells #[] 41)))
                  have HLIT := Lib.hid (World.ownsRow_lit (base := w.heap.size) (size := 3) (e := 41) wr #[] 0 HB.out.size (by unfold maxLen; omega) rfl)
                  have HBS : Hid (w.heap.size ≤ (wr.alloc (.cells #[] 41)).heap.size) := Lib.hid (Nat.le_trans HB.out.size (by simp))
                  have HFL : Hid ((flat encE l).length = m * 3) := Lib.hid (by rw [flat_length encE_length, HM.out])
                  by_cases h64 : 64 ≤ acc.length
                  · have h64I : (64 : Int) ≤ (acc.length : Int) := by omega
                    have HG := Lib.hid (show grE L R = 7 by rw [HG2.out, HGL.out, if_pos (by rw [List.length_append, List.length_singleton]; omega)])
                    go_wp2_with (first
                      | (at_builtin; refine wpList_appX (s := .tmp 69) (x := .tmp 70) HLIT.out info_ent Try.underlying22 rfl (by decide) HFL.out HSL.out (encE_one _) (by unfold maxLen; omega) (by omega) HBS.out rfl rfl (by rfl) (by rfl) ?_; intro v3 w3 hown3 hg3 _; rw [Nat.zero_add, List.nil_append] at hown3; obtain ⟨A3, c3, hv3⟩ := own_slice hown3; subst hv3; have hbW : Below wr.heap.size wr w3 := ((Below.refl wr.heap.size wr).alloc (Nat.le_refl _) (.cells #[] 41)).grown hg3 (by simp) (fun k hk => Nat.le_of_eq (Option.some.inj hk)); have HOW := Lib.hid (own_all HO.out hbW); have HBW := Lib.hid hbW; have HI3 := Lib.hid hown3; clear hbW hown3 hg3)
                      | (at_builtin; refine wpList_app1H (s := .tmp 68) (x := .tmp 72) HOW.out rfl info_ents Try.underlying33 rfl (by unfold maxLen; omega) (by omega) (Nat.le_trans HB.out.size HBW.out.size) rfl rfl rfl (by rfl) (by rfl) ?_; intro v4 w4 hown4 hb4 hg4; obtain ⟨A4, c4, hv4⟩ := own_slice hown4; subst hv4))
                    go_ret2
                    have hst := gr_step (g := l) HM.out HBW.out HR.out HOW.out HI3.out hown4 hg4 hb4 HB.out
                    exact GrRes.no HG.out (by decide) hst.2.2
                  · have h64I : ¬ (64 : Int) ≤ (acc.length : Int) := by omega
                    have HG := Lib.hid (show grE L R = 0 by rw [HG2.out, HGL.out, if_neg (by rw [List.length_append, List.length_singleton]; omega)])
                    have HGR : Hid (grR L R = acc ++ [l]) := Lib.hid (by unfold grR; rw [if_pos HG.out, HGL.out])
                    go_wp2_with (first
                      | (at_builtin; refine wpList_appX (s := .tmp 69) (x := .tmp 70) HLIT.out info_ent Try.underlying22 rfl (by decide) HFL.out HSL.out (encE_one _) (by unfold maxLen; omega) (by omega) HBS.out rfl rfl (by rfl) (by rfl) ?_; intro v3 w3 hown3 hg3 _; rw [Nat.zero_add, List.nil_append] at hown3; obtain ⟨A3, c3, hv3⟩ := own_slice hown3; subst hv3; have hbW : Below wr.heap.size wr w3 := ((Below.refl wr.heap.size wr).alloc (Nat.le_refl _) (.cells #[] 41)).grown hg3 (by simp) (fun k hk => Nat.le_of_eq (Option.some.inj hk)); have HOW := Lib.hid (own_all HO.out hbW); have HBW := Lib.hid hbW; have HI3 := Lib.hid hown3; clear hbW hown3 hg3)
                      | (at_builtin; refine wpList_app1H (s := .tmp 68) (x := .tmp 72) HOW.out rfl info_ents Try.underlying33 rfl (by unfold maxLen; omega) (by omega) (Nat.le_trans HB.out.size HBW.out.size) rfl rfl rfl (by rfl) (by rfl) ?_; intro v4 w4 hown4 hb4 hg4; obtain ⟨A4, c4, hv4⟩ := own_slice hown4; subst hv4))
                    go_ret2
                    have hst := gr_step (g := l) HM.out HBW.out HR.out HOW.out HI3.out hown4 hg4 hb4 HB.out
                    refine ⟨hst.2.2, A4, c4, _, ?_, ?_, SlAt.of_own' hown4 (Nat.le_refl _), ?_⟩
                    · rw [HGR.out, HG.out, List.length_append, List.length_singleton]; rfl
                    · rw [HGR.out, List.length_append, List.length_singleton]; exact own_cap hown4
                    · rw [HGR.out]; exact hst.2.1.gr
  · go_enter Try.func19, Try.ntmps19
    go_wp2_with fail
    refine HC.out.mono ?_
    rintro e w1 ⟨rfl, rfl⟩
    clear HC
    have HG := Lib.hid (show grE L R = E by unfold grE; rw [if_neg (by rw [HE.out]; exact h0), HE.out])
    go_wp2_with fail
    go_ret2
    exact GrRes.no HG.out h0 (Below.refl _ _)
end Go.Proofs.Ytnomodbcpndocaa
