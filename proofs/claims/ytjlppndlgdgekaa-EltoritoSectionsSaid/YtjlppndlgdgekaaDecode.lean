/-
  Decode of the program.
-/
import Derived.Test.YtjlppndlgdgekaaDecP
import Derived.Test.YtjlppndlgdgekaaStep
namespace Go.Proofs.Ytjlppndlgdgekaa
open Go.RowKit Go.Shelf
set_option linter.unusedVariables false
attribute [local go_sem] Oper.semAt_some

/-- What Decode answers, and where it lies. -/
def DecRes (s : ByteArray) (w : World) (e : Ending) (w' : World) : Prop :=
  Below w.heap.size w w' ∧ ∃ A c, e = .returned (.tuple #[.slice A (decR s.data.toList).2.length c, .int .i64 (decR s.data.toList).1]) ∧ SlAt w' w'.heap.size A (flat encI (decR s.data.toList).2)

theorem rowAt_own {W W' : World} {row : Option Nat} {g B : Nat} {t : TypeId} {cs : Array Value} (h : RowAt W g t cs) (hg : W.grownBy W' row) (hr : ∀ r, row = some r → B ≤ r ∧ ∃ o : Obj, W.heap[r]? = some o ∧ o.isCells = false) : RowAt W' g t cs :=
  (hg.block g h.lt fun e => by
    obtain ⟨_, o, ho, hc⟩ := hr g e.symm
    unfold RowAt at h
    rw [h] at ho
    injection ho with ho
    subst ho
    cases hc).trans h
theorem ownsRow_own {W W' : World} {row : Option Nat} {base e size n B : Nat} {v : Value} {xs : List Value} (h : W.ownsRow base e size v n xs) (hg : W.grownBy W' row) (hr : ∀ r, row = some r → B ≤ r ∧ ∃ o : Obj, W.heap[r]? = some o ∧ o.isCells = false) : W'.ownsRow base e size v n xs :=
  own_grown h hg fun k hk e => by
    obtain ⟨_, o, ho, hc⟩ := hr k e.symm
    rcases h.2 with ⟨rfl, _⟩ | ⟨g, cap, cur, rfl, _, hh, _⟩
    · simp [Value.ownBlock] at hk
    · have e1 : g = k := by simpa [Value.ownBlock] using hk
      subst e1
      rw [hh] at ho
      injection ho with ho
      subst ho
      cases hc

/-- The cells of Decode from block g on. -/
def dRows (g : Nat) (s : ByteArray) (rv ev v : Value) (fi : Bool) (st : DSt) : Rows := [(g + 1 + 1 + 1 + 1 + 1 + 1 + 1 + 1, 9, #[.string s]), (g + 1 + 1 + 1 + 1 + 1 + 1 + 1, 3, #[.int .i64 st.heads]), (g + 1 + 1 + 1 + 1 + 1 + 1, 4, #[.bool fi]), (g + 1 + 1 + 1 + 1 + 1, 4, #[.bool st.more]), (g + 1 + 1 + 1 + 1, 3, #[.int .i64 st.left]), (g + 1 + 1 + 1, 3, #[.int .i64 st.plat]), (g + 1 + 1, 22, #[v]), (g + 1, 24, #[ev]), (g, 22, #[rv])]
abbrev dZ : Value := .slice none 0 0
abbrev dE : Value := .int .i64 0
structure DecM (w : World) (s : ByteArray) (v : Value) (fi : Bool) (st : DSt) (W : World) : Prop where
  rows : St w W (dRows w.heap.size s dZ dE v fi st)
  own : W.ownsRow (w.heap.size + 9) 34 6 v st.out.length (flat encI st.out)
theorem St.keep_own {w W W' : World} {rows : Rows} {row : Option Nat} (h : St w W rows) (hg : W.grownBy W' row) (hr : ∀ r, row = some r → w.heap.size ≤ r ∧ ∃ o : Obj, W.heap[r]? = some o ∧ o.isCells = false) : St w W' rows :=
  ⟨h.1.grown hg h.1.size (fun k e => (hr k e).1), fun r hm => ⟨(h.2.1 r hm).1, rowAt_own (h.2.1 r hm).2 hg hr⟩, h.2.2⟩
theorem own_set {W : World} {base e size n g j : Nat} {v u : Value} {xs : List Value} (h : W.ownsRow base e size v n xs) (hg : g < base) : (W.setCell ⟨g, j, none⟩ u).ownsRow base e size v n xs := by
  refine ⟨h.1, ?_⟩
  rcases h.2 with h2 | ⟨k, cap, cur, hv, hk, hh, r⟩
  · exact .inl h2
  · refine .inr ⟨k, cap, cur, hv, hk, ?_, r⟩
    have h1 : (W.setCell ⟨g, j, none⟩ u).heap[k]? = W.heap[k]? := Below.heap_setCell W _ _ k (show k ≠ g by omega)
    rw [h1]
    exact hh
theorem St.grown_own {w W W' : World} {rows : Rows} {base e size n : Nat} {v : Value} {xs : List Value} (h : St w W rows) (ho : W.ownsRow base e size v n xs) (hg : W.grownBy W' v.ownBlock) (hb : w.heap.size ≤ base) (hlt : ∀ r ∈ rows, r.1 < base) : St w W' rows :=
  ⟨h.1.grown hg h.1.size (fun k hk => Nat.le_trans hb (ho.lt k hk).1), fun r hm => ⟨(h.2.1 r hm).1, (h.2.1 r hm).2.grown hg (fun e => by have := (ho.lt r.1 e.symm).1; have := hlt r hm; omega)⟩, h.2.2⟩
theorem dRows_lt {g : Nat} {s : ByteArray} {rv ev v : Value} {fi : Bool} {st : DSt} : ∀ r ∈ dRows g s rv ev v fi st, r.1 < g + 9 := by
  intro r hr
  unfold dRows at hr
  simp only [List.mem_cons, List.not_mem_nil, or_false] at hr
  rcases hr with rfl | rfl | rfl | rfl | rfl | rfl | rfl | rfl | rfl <;> dsimp only <;> omega
theorem info_img : (Try.prog.info? 34).map (fun i => (i.zero, i.size, i.bytes)) = some (some (.agg #[.int .i64 0, .int .i64 0, .int .i64 0, .int .i64 0, .int .i64 0, .bool false]), 6, 48) := by kernel_rfl
theorem own_cells {W : World} {base e size n : Nat} {v : Value} {xs : List Value} (h : W.ownsRow base e size v n xs) : ∀ (j : Nat) (o : Obj), v.ownBlock = some j → W.heap[j]? = some o → o.isCells = true := by
  intro j o hj ho
  rcases h.2 with ⟨rfl, _⟩ | ⟨g, cap, cur, rfl, _, hh, _⟩
  · simp [Value.ownBlock] at hj
  · have e1 : g = j := by simpa [Value.ownBlock] using hj
    subst e1
    rw [hh] at ho
    injection ho with ho
    subst ho
    rfl
theorem kept_below {W W' : World} (hb : Below W.heap.size W W') : KeepsOthers W W' := ⟨hb.size, fun k o hk _ => (hb.block k (Array.getElem?_eq_some_iff.1 hk).1).trans hk⟩
/-- Between two rounds. -/
def DecBetween (w : World) (s : ByteArray) (pre : List Ent) (W : World) : Prop :=
  ∃ (v : Value) (fi : Bool) (st : DSt), DecM w s v fi st W ∧ DecI pre fi st ∧ 0 ≤ st.heads ∧ st.heads ≤ pre.length ∧ 0 ≤ st.left ∧ st.left ≤ 65535 ∧ st.out.length ≤ pre.length
/-- A round has returned. -/
def DecLeft (w : World) (c : Code) (pre : List Ent) (W : World) : Prop :=
  c = .ret ∧ Below w.heap.size w W ∧ ∃ (r : Int × List Img) (v : Value), DecA pre r ∧ RowAt W w.heap.size 22 #[v] ∧ RowAt W (w.heap.size + 1) 24 #[.int .i64 r.1] ∧ W.ownsRow (w.heap.size + 9) 34 6 v r.2.length (flat encI r.2)

theorem own_slice {w : World} {base e size n : Nat} {v : Value} {xs : List Value} (h : w.ownsRow base e size v n xs) : ∃ A c, v = .slice A n c := by
  rcases h.2 with ⟨rfl, rfl⟩ | ⟨g, cap, cur, rfl, _⟩
  · exact ⟨none, 0, rfl⟩
  · exact ⟨_, _, rfl⟩
theorem SlAt.of_own' {w : World} {base e size n G c : Nat} {A : Option Addr} {xs : List Value} (h : w.ownsRow base e size (.slice A n c) n xs) (hG : w.heap.size ≤ G) : SlAt w G A xs := by
  rcases h.2 with ⟨h1, rfl⟩ | ⟨g, cap, cur, h1, h2⟩
  · have : xs = [] := List.eq_nil_of_length_eq_zero (by have := h.1; omega)
    rw [this]
    exact SlAt.nil _ _ _
  · injection h1 with h1 _ _
    subst h1
    have hlt := (h.lt g rfl).2
    intro j u hu
    refine ⟨g, 0, rfl, by omega, ?_⟩
    have := h.cells (g := g) rfl j u hu
    have hadd : (⟨g, 0, none⟩ : Addr).add j = ⟨g, 0 + j, none⟩ := by unfold Addr.add; split <;> simp_all
    rwa [hadd] at this
/-- What stands in the result's cells when the rounds' deferred calls have been taken. -/
theorem dec_end {w W : World} {s : ByteArray} {D : Nat} {r : Int × List Img} {v : Value} (hr : decR s.data.toList = r) (hb : Below w.heap.size w W) (h1 : RowAt W w.heap.size 22 #[v]) (h2 : RowAt W (w.heap.size + 1) 24 #[.int .i64 r.1])
    (h3 : W.ownsRow (w.heap.size + 9) 34 6 v r.2.length (flat encI r.2)) (hK : W.heap[D]? = some (.deferred (some []))) (hD : w.heap.size ≤ D) :
    RowAt (W.putObj D (.deferred none)) w.heap.size 22 #[v] ∧ RowAt (W.putObj D (.deferred none)) (w.heap.size + 1) 24 #[.int .i64 r.1] ∧ DecRes s w (.returned (.tuple #[v, .int .i64 r.1])) (W.putObj D (.deferred none)) := by
  have hg := grownBy_putObj' W D (.deferred none)
  have hc : ∀ q, some D = some q → w.heap.size ≤ q ∧ ∃ o : Obj, W.heap[q]? = some o ∧ o.isCells = false := fun q e => by cases e; exact ⟨hD, _, hK, rfl⟩
  have h3' := ownsRow_own h3 hg hc
  obtain ⟨A, c, rfl⟩ := own_slice h3
  refine ⟨rowAt_own h1 hg hc, rowAt_own h2 hg hc, hb.grown hg hb.size (fun k e => (hc k e).1), A, c, by rw [hr], ?_⟩
  rw [hr]
  exact SlAt.of_own' h3' (Nat.le_refl _)
theorem keyOk_eq (x : ByteArray) (hx : x.size = 32) (h0 : 0 < x.size) : keyOk (byt ⟨x, hx⟩) = ((x[0].toNat : Int) == 1 && ((x.extract 30 32).toList == [85, 170] && sumS x.data.toList == 0)) := by
  have h1 : (x.extract 30 32).toList = x.data.toList.drop 30 := by
    rw [ByteArray.toList_eq, ByteArray.data_extract]
    simp only [Array.toList_extract, List.extract_eq_take_drop]
    rw [List.take_of_length_le]
    simp
    omega
  unfold keyOk
  rw [h1, show byteL (byt ⟨x, hx⟩) 0 = (x[0].toNat : Int) from byteL_get x 0 h0]
  rfl
/-- The world where the loop begins. -/
def dW (w : World) (s : ByteArray) : World := (((((((((w.alloc (.cells #[.slice none 0 0] 22)).alloc (.cells #[.int .i64 0] 24)).alloc (.cells #[.slice none 0 0] 22)).alloc (.cells #[.int .i64 0] 3)).alloc (.cells #[.int .i64 1] 3)).alloc (.cells #[.bool true] 4)).alloc (.cells #[.bool true] 4)).alloc (.cells #[.int .i64 0] 3)).alloc (.cells #[.string s] 9))

set_option maxRecDepth 100000 in
set_option maxHeartbeats 8000000 in
theorem decode_go (s : ByteArray) (w : World) (hs : s.size = 2048) : Calls Try.prog 13 #[.string s] w (DecRes s w) := by
  have HS := Lib.hid hs
  have hsI : (s.size : Int) = 2048 := by omega
  have h8 : St w (dW w s) _ := (((((((((St.start w).new (g := w.heap.size) rfl #[.slice none 0 0] 22).new (g := w.heap.size + 1) (by simp) #[.int .i64 0] 24).new (g := w.heap.size + 1 + 1) (by simp) #[.slice none 0 0] 22).new (g := w.heap.size + 1 + 1 + 1) (by simp) #[.int .i64 0] 3).new (g := w.heap.size + 1 + 1 + 1 + 1) (by simp) #[.int .i64 1] 3).new (g := w.heap.size + 1 + 1 + 1 + 1 + 1) (by simp) #[.bool true] 4).new (g := w.heap.size + 1 + 1 + 1 + 1 + 1 + 1) (by simp) #[.bool true] 4).new (g := w.heap.size + 1 + 1 + 1 + 1 + 1 + 1 + 1) (by simp) #[.int .i64 0] 3).new (g := w.heap.size + 1 + 1 + 1 + 1 + 1 + 1 + 1 + 1) (by simp) #[.string s] 9
  clear hs
  refine (callsIn_wide (n := 5)).1 ?_
  refine callsIn_of_wp_marks Try.func13 rfl trivial ?_ rfl
  simp only [Try.ntmps13, List.size_toArray, List.length_cons, List.length_nil, Nat.reduceAdd, Nat.reduceSub, Array.replicate_succ, Array.replicate_zero, List.push_toArray, List.append_toArray, List.nil_append, List.cons_append]
  gi_wp2_with (refine ⟨trivial, ?_⟩; gi_at_call 33; refine (entries_in Fence.wide 4 trivial rfl _ _).mono ?_; rintro e w' ⟨rfl, rfl⟩)
  rw [show (((((((((w.alloc (.cells #[.slice none 0 0] 22)).alloc (.cells #[.int .i64 0] 24)).alloc (.cells #[.slice none 0 0] 22)).alloc (.cells #[.int .i64 0] 3)).alloc (.cells #[.int .i64 1] 3)).alloc (.cells #[.bool true] 4)).alloc (.cells #[.bool true] 4)).alloc (.cells #[.int .i64 0] 3)).alloc (.cells #[.string s] 9)) = dW w s from rfl]
  have hsz : (dW w s).heap.size = w.heap.size + 9 := by unfold dW; simp only [World.size_alloc]
  have hown8 : (dW w s).ownsRow (w.heap.size + 9) 34 6 (.slice none 0 0) 0 [] := World.ownsRow_nil _ _ _ _
  generalize dW w s = W8 at *
  have hbox := h8.at (i := 0) rfl
  refine wpIn_rangeFunc_ownG rfl (by omega) (gf := 49) (lb := #[.pointer (some ⟨w.heap.size + 1 + 1 + 1 + 1 + 1 + 1 + 1 + 1, 0, none⟩)]) rfl trivial (enters_of Try.func49 (by kernel_rfl) rfl)
    (entries_stops Fence.wide 4 trivial rfl (by omega) (w.heap.size + 1 + 1 + 1 + 1 + 1 + 1 + 1 + 1) s HS.out W8 hbox) (fun h k hr => k (h hr)) (fun W l o o' _ ho hc _ hr => rowAt_own (B := 0) hr (grownBy_putObj' W l o') (fun r e => by cases e; exact ⟨Nat.zero_le _, o, ho, hc⟩)) (Below.refl _ _) (fun _ => rfl)
    (DecBetween w s) (DecLeft w) ?hI ?hIx ?h0
    (fun x => { tmps := #[.string s, undef, .pointer (some ⟨w.heap.size, 0, none⟩), .pointer (some ⟨w.heap.size + 1, 0, none⟩), .pointer (some ⟨w.heap.size + 1 + 1, 0, none⟩), .pointer (some ⟨w.heap.size + 1 + 1 + 1, 0, none⟩), .pointer (some ⟨w.heap.size + 1 + 1 + 1 + 1, 0, none⟩), .pointer (some ⟨w.heap.size + 1 + 1 + 1 + 1 + 1, 0, none⟩), .pointer (some ⟨w.heap.size + 1 + 1 + 1 + 1 + 1 + 1, 0, none⟩), .pointer (some ⟨w.heap.size + 1 + 1 + 1 + 1 + 1 + 1 + 1, 0, none⟩), .string x.1, .string s, .int .i64 2048, .bool false, .string s, .func (.func 49) #[] #[.pointer (some ⟨w.heap.size + 1 + 1 + 1 + 1 + 1 + 1 + 1 + 1, 0, none⟩)], .string x.1, undef, undef, undef, undef, undef, undef, undef, undef, undef, undef, undef, undef, undef, undef, undef, undef, undef, undef, undef, undef, undef, undef, undef, undef, undef, undef, undef, undef, undef, undef, undef, undef, undef, undef, undef, undef, undef, undef, undef, undef, undef, undef, undef, undef, undef, undef, undef, undef, undef, undef, undef, undef, undef, undef, undef, undef, undef, undef, undef, undef, undef, undef, undef, undef, undef, undef, undef, undef, undef, undef, undef, undef, undef, undef, undef, undef, undef, undef, undef, undef, undef, undef, undef, undef, undef, undef, undef, undef, undef, undef], defers := [] }) ?assign ?body ?done ?stop
  case hI =>
    rintro pre A B row ⟨v, fi, st, ⟨hm, ho⟩, rest⟩ hg hr
    have hr' : ∀ r, row = some r → w.heap.size ≤ r ∧ ∃ o : Obj, A.heap[r]? = some o ∧ o.isCells = false := fun r e => ⟨by have := (hr r e).1; omega, (hr r e).2⟩
    exact ⟨v, fi, st, ⟨hm.keep_own hg hr', ownsRow_own ho hg hr'⟩, rest⟩
  case hIx =>
    rintro c pre A B row ⟨hc, hb, r, v, ha, h1, h2, h3⟩ hg hr
    have hr' : ∀ r, row = some r → w.heap.size ≤ r ∧ ∃ o : Obj, A.heap[r]? = some o ∧ o.isCells = false := fun r e => ⟨by have := (hr r e).1; omega, (hr r e).2⟩
    exact ⟨hc, hb.grown hg hb.size (fun k e => (hr' k e).1), r, v, ha, rowAt_own h1 hg hr', rowAt_own h2 hg hr', ownsRow_own h3 hg hr'⟩
  case h0 => exact ⟨dZ, true, ⟨0, 1, true, 0, []⟩, ⟨h8, hown8⟩, .inl ⟨rfl, rfl, rfl⟩, by simp, by simp, by simp, by simp, by simp⟩
  case assign =>
    intro l x W K hK
    gi_wp2
    exact hK
  case body =>
    rintro l pre ⟨x, hx⟩ W ⟨v, fi, st, hm, hI, hd0, hd1, hl0, hl1, hol⟩ hlt
    dsimp only
    have hxI : (x.size : Int) = 32 := by omega
    have hx0 : 0 < x.size := by omega
    have hx1 : 1 < x.size := by omega
    have h30 : (30 : Int) ≤ (x.size : Int) := by omega
    have B0 : Hid (byteL (byt ⟨x, hx⟩) 0 = (x[0].toNat : Int)) := Lib.hid (byteL_get x 0 hx0)
    have B1 : Hid (byteL (byt ⟨x, hx⟩) 1 = (x[1].toNat : Int)) := Lib.hid (byteL_get x 1 hx1)
    have b0l := x[0].toNat_lt
    have b1l := x[1].toNat_lt
    have HR2 := Lib.hid (fun w => read_same x hx 2 2 (by omega) (by omega) (by omega) w)
    have HR6 := Lib.hid (fun w => read_same x hx 6 2 (by omega) (by omega) (by omega) w)
    have HR8 := Lib.hid (fun w => read_same x hx 8 4 (by omega) (by omega) (by omega) w)
    have CS := Lib.hid (fun w => sum_any x w (by omega))
    have HKO := Lib.hid (keyOk_eq x hx hx0)
    cases fi with
    | true =>
      have hp : pre = [] ∧ st = ⟨0, 1, true, 0, []⟩ := by
        rcases hI with ⟨h1, _, h2⟩ | ⟨_, _, _, h, _⟩
        · exact ⟨h1, h2⟩
        · cases h
      obtain ⟨rfl, rfl⟩ := hp
      have qplat := (hm.rows.at (i := 5) rfl).cell
      have fplat := (hm.rows.at (i := 5) rfl).frozen
      have qleft := (hm.rows.at (i := 4) rfl).cell
      have fleft := (hm.rows.at (i := 4) rfl).frozen
      have qmore := (hm.rows.at (i := 3) rfl).cell
      have fmore := (hm.rows.at (i := 3) rfl).frozen
      have qfirst := (hm.rows.at (i := 2) rfl).cell
      have ffirst := (hm.rows.at (i := 2) rfl).frozen
      have qres := (hm.rows.at (i := 8) rfl).cell
      have fres := (hm.rows.at (i := 8) rfl).frozen
      have qerr := (hm.rows.at (i := 7) rfl).cell
      have ferr := (hm.rows.at (i := 7) rfl).frozen
      dsimp only at qplat qleft qmore qfirst
      have HM := Lib.hid hm
      clear hm hI hd0 hd1 hl0 hl1 hol hlt
      by_cases k0 : (x[0].toNat : Int) = 1
      · have k0' : ((x[0].toNat : Int) != 1) = false := by rw [bne_eq_false_iff_eq]; exact k0
        by_cases k1 : (x.extract 30 32).toList = [85, 170]
        · generalize hS : sumS x.data.toList = S at *
          have HKK := Lib.hid HKO.out
          gi_wp2
          refine ⟨trivial, ?_⟩
          refine (CallsIn.inRound l (callsIn_wide.2 (CS.out _))).mono ?_
          rintro e w1 ⟨rfl, hb1⟩
          have h1 := St.call hb1 ((HM.out.rows.set 2 rfl 0 (.bool false)).set 5 rfl 0 (.int .i64 (x[1].toNat : Int)))
          have ko1 : KeepsOthers W w1 := ((KeepsOthers.setCell _ _ _).trans (KeepsOthers.setCell _ _ _)).trans (kept_below hb1)
          have own1 := own_all (own_set (j := 0) (u := .int .i64 (x[1].toNat : Int)) (own_set (j := 0) (u := .bool false) HM.out.own (g := w.heap.size + 1 + 1 + 1 + 1 + 1 + 1) (by omega)) (g := w.heap.size + 1 + 1 + 1) (by omega)) hb1
          clear hb1 qplat qleft qmore qfirst qres qerr fplat fleft fmore ffirst fres ferr
          have qplat1 := (h1.at (i := 5) rfl).cell
          have fplat1 := (h1.at (i := 5) rfl).frozen
          have qleft1 := (h1.at (i := 4) rfl).cell
          have fleft1 := (h1.at (i := 4) rfl).frozen
          have qmore1 := (h1.at (i := 3) rfl).cell
          have fmore1 := (h1.at (i := 3) rfl).frozen
          have qfirst1 := (h1.at (i := 2) rfl).cell
          have ffirst1 := (h1.at (i := 2) rfl).frozen
          have qres1 := (h1.at (i := 8) rfl).cell
          have fres1 := (h1.at (i := 8) rfl).frozen
          have qerr1 := (h1.at (i := 7) rfl).cell
          have ferr1 := (h1.at (i := 7) rfl).frozen
          by_cases k2 : S = 0
          · have k2' : (S != 0) = false := by rw [bne_eq_false_iff_eq]; exact k2
            have KY : Hid (keyOk (byt ⟨x, hx⟩) = true) := Lib.hid (by rw [HKK.out, k0, k1, k2]; rfl)
            clear k0 k1 k2
            gi_wp2
            refine ⟨trivial, ?_⟩
            refine (CallsIn.inRound l (callsIn_wide.2 (isplat_any _ _))).mono ?_
            rintro e w2 ⟨rfl, hb2⟩
            have h2 := St.call hb2 h1
            have ko2 := ko1.trans (kept_below hb2)
            have own2 := own_all own1 hb2
            clear hb2 qplat1 qleft1 qmore1 qfirst1 qres1 qerr1 fplat1 fleft1 fmore1 ffirst1 fres1 ferr1
            have qplat2 := (h2.at (i := 5) rfl).cell
            have fplat2 := (h2.at (i := 5) rfl).frozen
            have qleft2 := (h2.at (i := 4) rfl).cell
            have fleft2 := (h2.at (i := 4) rfl).frozen
            have qmore2 := (h2.at (i := 3) rfl).cell
            have fmore2 := (h2.at (i := 3) rfl).frozen
            have qfirst2 := (h2.at (i := 2) rfl).cell
            have ffirst2 := (h2.at (i := 2) rfl).frozen
            have qres2 := (h2.at (i := 8) rfl).cell
            have fres2 := (h2.at (i := 8) rfl).frozen
            have qerr2 := (h2.at (i := 7) rfl).cell
            have ferr2 := (h2.at (i := 7) rfl).frozen
            cases hpl : platB (x[1].toNat : Int) with
            | false =>
              have PL : Hid (platB (byteL (byt ⟨x, hx⟩) 1) = false) := Lib.hid (by rw [B1.out]; exact hpl)
              clear hpl
              gi_wp2
              have hr' := (h2.set 8 rfl 0 dZ).set 7 rfl 0 (.int .i64 14)
              exact ⟨(ko2.trans ((KeepsOthers.setCell _ _ _).trans (KeepsOthers.setCell _ _ _))).from _, rfl, hr'.bel, (14, []), dZ, ans_plat KY.out PL.out, hr'.at (i := 8) rfl, hr'.at (i := 7) rfl, World.ownsRow_nil _ _ _ _⟩
            | true =>
              have PL : Hid (platB (byteL (byt ⟨x, hx⟩) 1) = true) := Lib.hid (by rw [B1.out]; exact hpl)
              clear hpl
              gi_wp2
              skip
              exact ⟨ko2.from _, fun _ => h2.at (i := 0) rfl, v, false, st0 ⟨x, hx⟩, ⟨by unfold st0; rw [B1.out]; exact h2, own2⟩, DecI.first KY.out PL.out, by simp [st0], by simp [st0], by simp [st0], by simp [st0], by simp [st0]⟩
          · have k2' : (S != 0) = true := by rw [bne_iff_ne]; exact k2
            have KY : Hid (keyOk (byt ⟨x, hx⟩) = false) := Lib.hid (by rw [HKK.out, k0, k1, beq_eq_false_iff_ne.2 k2]; rfl)
            clear k0 k1 k2
            gi_wp2
            have hr' := (h1.set 8 rfl 0 dZ).set 7 rfl 0 (.int .i64 10)
            exact ⟨(ko1.trans ((KeepsOthers.setCell _ _ _).trans (KeepsOthers.setCell _ _ _))).from _, rfl, hr'.bel, (10, []), dZ, ans_key KY.out, hr'.at (i := 8) rfl, hr'.at (i := 7) rfl, World.ownsRow_nil _ _ _ _⟩
        · have KY : Hid (keyOk (byt ⟨x, hx⟩) = false) := Lib.hid (by rw [HKO.out, k0, beq_eq_false_iff_ne.2 k1]; rfl)
          clear k0
          gi_wp2
          refine ⟨trivial, ?_⟩
          gi_wp2
          have hr' := (((HM.out.rows.set 2 rfl 0 (.bool false)).set 5 rfl 0 (.int .i64 (x[1].toNat : Int))).set 8 rfl 0 dZ).set 7 rfl 0 (.int .i64 10)
          exact ⟨((((KeepsOthers.setCell _ _ _).trans (KeepsOthers.setCell _ _ _)).trans (KeepsOthers.setCell _ _ _)).trans (KeepsOthers.setCell _ _ _)).from _, rfl, hr'.bel, (10, []), dZ, ans_key KY.out, hr'.at (i := 8) rfl, hr'.at (i := 7) rfl, World.ownsRow_nil _ _ _ _⟩
      · have k0' : ((x[0].toNat : Int) != 1) = true := by rw [bne_iff_ne]; exact k0
        have KY : Hid (keyOk (byt ⟨x, hx⟩) = false) := Lib.hid (by rw [HKO.out, beq_eq_false_iff_ne.2 k0]; rfl)
        clear k0
        gi_wp2
        refine ⟨trivial, ?_⟩
        gi_wp2
        have hr' := (((HM.out.rows.set 2 rfl 0 (.bool false)).set 5 rfl 0 (.int .i64 (x[1].toNat : Int))).set 8 rfl 0 dZ).set 7 rfl 0 (.int .i64 10)
        exact ⟨((((KeepsOthers.setCell _ _ _).trans (KeepsOthers.setCell _ _ _)).trans (KeepsOthers.setCell _ _ _)).trans (KeepsOthers.setCell _ _ _)).from _, rfl, hr'.bel, (10, []), dZ, ans_key KY.out, hr'.at (i := 8) rfl, hr'.at (i := 7) rfl, World.ownsRow_nil _ _ _ _⟩
    | false =>
      obtain ⟨p, lf, mo, hd, out⟩ := st
      have qplat := (hm.rows.at (i := 5) rfl).cell
      have fplat := (hm.rows.at (i := 5) rfl).frozen
      have qleft := (hm.rows.at (i := 4) rfl).cell
      have fleft := (hm.rows.at (i := 4) rfl).frozen
      have qmore := (hm.rows.at (i := 3) rfl).cell
      have fmore := (hm.rows.at (i := 3) rfl).frozen
      have qfirst := (hm.rows.at (i := 2) rfl).cell
      have ffirst := (hm.rows.at (i := 2) rfl).frozen
      have qres := (hm.rows.at (i := 8) rfl).cell
      have fres := (hm.rows.at (i := 8) rfl).frozen
      have qerr := (hm.rows.at (i := 7) rfl).cell
      have ferr := (hm.rows.at (i := 7) rfl).frozen
      have qheads := (hm.rows.at (i := 1) rfl).cell
      have fheads := (hm.rows.at (i := 1) rfl).frozen
      have qout := (hm.rows.at (i := 6) rfl).cell
      have fout := (hm.rows.at (i := 6) rfl).frozen
      dsimp only at qplat qleft qmore qheads hd0 hd1 hl0 hl1 hol
      have HM := Lib.hid hm
      have HI := Lib.hid hI
      clear hm hI
      have hd2 : hd ≤ 64 := by omega
      by_cases hlf : 0 < lf
      · by_cases k0 : (x[0].toNat : Int) = 136 ∨ (x[0].toNat : Int) = 0
        · have K0 : Hid (byteL (byt ⟨x, hx⟩) 0 = 136 ∨ byteL (byt ⟨x, hx⟩) 0 = 0) := Lib.hid (by rw [B0.out]; exact k0)
          by_cases k1 : (x[1].toNat : Int) ≤ 4
          · have K1 : Hid (byteL (byt ⟨x, hx⟩) 1 ≤ 4) := Lib.hid (by rw [B1.out]; exact k1)
            have k1' : decide (4 < x[1].toNat) = false := decide_eq_false (by omega)
            have hst := Lib.hid (step_img (st := ⟨p, lf, mo, hd, out⟩) (x := byt ⟨x, hx⟩) hlf K0.out K1.out)
            have HIM : Hid (imgOf p (byt ⟨x, hx⟩) = ⟨p, (x[1].toNat : Int), rdL x.data.toList 2 2, rdL x.data.toList 6 2, rdL x.data.toList 8 4, (x[0].toNat : Int) == 136⟩) := Lib.hid (by unfold imgOf; rw [B0.out, B1.out]; rfl)
            rcases k0 with k0 | k0
            · have HST : Hid (stepD ⟨p, lf, mo, hd, out⟩ (byt ⟨x, hx⟩) = .inr ⟨p, lf - 1, mo, hd, out ++ [⟨p, (x[1].toNat : Int), rdL x.data.toList 2 2, rdL x.data.toList 6 2, rdL x.data.toList 8 4, true⟩]⟩) := Lib.hid (by rw [hst.out]; dsimp only; rw [HIM.out, k0]; rfl)
              clear hst HIM
              have h1 : St w _ (dRows w.heap.size s dZ dE v false ⟨p, lf - 1, mo, hd, out⟩) := HM.out.rows.set 4 rfl 0 (.int .i64 (lf - 1))
              have o1 := own_drewN (own_set (j := 0) (u := .int .i64 (lf - 1)) HM.out.own (g := w.heap.size + 1 + 1 + 1 + 1) (by omega)) 1
              dsimp only at o1
              generalize hr2 : rdL x.data.toList 2 2 = r2 at *
              generalize hr6 : rdL x.data.toList 6 2 = r6 at *
              generalize hr8 : rdL x.data.toList 8 4 = r8 at *
              have R2 := Lib.hid (fun w => read_any x hx 2 2 (by omega) (by omega) (by omega) w)
              have R6 := Lib.hid (fun w => read_any x hx 6 2 (by omega) (by omega) (by omega) w)
              have R8 := Lib.hid (fun w => read_any x hx 8 4 (by omega) (by omega) (by omega) w)
              rw [hr2] at R2
              rw [hr6] at R6
              rw [hr8] at R8
              clear hr2 hr6 hr8
              gi_wp2
              have ew : IntKind.i64.wrap (x[1].toNat : Int) = (x[1].toNat : Int) := IntWalk.i64_in _ (by omega)
              refine wpIn_Z_of (S := fun w' => St w w' (dRows w.heap.size s dZ dE v false ⟨p, lf - 1, mo, hd, out⟩)) 17 (by kernel_rfl) (by kernel_rfl) (by rintro ⟨a, w, h⟩; exact h) h1.drew (fun hHeld => ?_)
              refine wpAnyZ_take (i := 0) (oi := ?o1) (v := ?v1) ?hi1 (by kernel_rfl) (by kernel_rfl) (by kernel_rfl) (by kernel_rfl) ?hq1 ?hy1 (by assumption) ?hr1
              case hi1 => (simp only [List.getElem?_toArray, List.getElem?_cons_zero]; rfl)
              case hy1 => ((refine .inl ⟨by rfl, ?_⟩); intro w hS; have q := (St.at hS (i := 6) rfl).cell; go_simp; (try with_reducible rfl))
              case hq1 => exact fun _ _ _ h => h
              (try simp only [Act.put, List.setIfInBounds_toArray, List.set_cons_zero, List.set_cons_succ])
              refine wpAnyZ_take (i := 1) (oi := ?o2) (v := ?v2) ?hi2 (by kernel_rfl) (by kernel_rfl) (by kernel_rfl) (by kernel_rfl) ?hq2 ?hy2 (by assumption) ?hr2
              case hi2 => (simp only [List.getElem?_toArray, List.getElem?_cons_succ, List.getElem?_cons_zero]; rfl)
              case hy2 => ((refine .inl ⟨by rfl, ?_⟩); intro w hS; have q := (St.at hS (i := 5) rfl).cell; go_simp; (try with_reducible rfl))
              case hq2 => exact fun _ _ _ h => h
              (try simp only [Act.put, List.setIfInBounds_toArray, List.set_cons_zero, List.set_cons_succ])
              refine wpAnyZ_take (i := 2) (oi := ?o3) (v := ?v3) ?hi3 (by kernel_rfl) (by kernel_rfl) (by kernel_rfl) (by kernel_rfl) ?hq3 ?hy3 (by assumption) ?hr3
              case hi3 => (simp only [List.getElem?_toArray, List.getElem?_cons_succ, List.getElem?_cons_zero]; rfl)
              case hy3 => ((refine .inl ⟨by rfl, ?_⟩); intro w hS; go_simp; (try with_reducible rfl))
              case hq3 => exact fun _ _ _ h => h
              (try simp only [Act.put, List.setIfInBounds_toArray, List.set_cons_zero, List.set_cons_succ])
              refine wpAnyZ_take (i := 3) (oi := ?o4) (v := ?v4) ?hi4 (by kernel_rfl) (by kernel_rfl) (by kernel_rfl) (by kernel_rfl) ?hq4 ?hy4 (by assumption) ?hr4
              case hi4 => (simp only [List.getElem?_toArray, List.getElem?_cons_succ, List.getElem?_cons_zero]; rfl)
              case hy4 => ((refine .inl ⟨by rfl, ?_⟩); intro w hS; go_simp; (try with_reducible rfl))
              case hq4 => exact fun _ _ _ h => h
              (try simp only [Act.put, List.setIfInBounds_toArray, List.set_cons_zero, List.set_cons_succ])
              refine wpAnyZ_take (i := 4) (oi := ?o5) (v := ?v5) ?hi5 (by kernel_rfl) (by kernel_rfl) (by kernel_rfl) (by kernel_rfl) ?hq5 ?hy5 (by assumption) ?hr5
              case hi5 => (simp only [List.getElem?_toArray, List.getElem?_cons_succ, List.getElem?_cons_zero]; rfl)
              case hy5 => ((refine .inl ⟨by rfl, ?_⟩); intro w hS; go_simp; (try with_reducible rfl))
              case hq5 => exact fun _ _ _ h => h
              (try simp only [Act.put, List.setIfInBounds_toArray, List.set_cons_zero, List.set_cons_succ])
              refine wpAnyZ_take (i := 5) (oi := ?o6) (v := ?v6) ?hi6 (by kernel_rfl) (by kernel_rfl) (by kernel_rfl) (by kernel_rfl) ?hq6 ?hy6 (by assumption) ?hr6
              case hi6 => (simp only [List.getElem?_toArray, List.getElem?_cons_succ, List.getElem?_cons_zero]; rfl)
              case hy6 => ((refine .inl ⟨by rfl, ?_⟩); intro w hS; go_simp; (try with_reducible rfl))
              case hq6 => exact fun _ _ _ h => h
              (try simp only [Act.put, List.setIfInBounds_toArray, List.set_cons_zero, List.set_cons_succ])
              refine wpAnyZ_take (i := 7) (oi := ?o7) (v := ?v7) ?hi7 (by kernel_rfl) (by kernel_rfl) (by kernel_rfl) (by kernel_rfl) ?hq7 ?hy7 (by assumption) ?hr7
              case hi7 => (simp only [List.getElem?_toArray, List.getElem?_cons_succ, List.getElem?_cons_zero]; rfl)
              case hy7 => ((refine .inl ⟨by rfl, ?_⟩); intro w hS; go_simp; (try with_reducible rfl))
              case hq7 => exact fun _ _ _ h => h
              (try simp only [Act.put, List.setIfInBounds_toArray, List.set_cons_zero, List.set_cons_succ])
              refine wpAnyZ_take (i := 9) (oi := ?o8) (v := ?v8) ?hi8 (by kernel_rfl) (by kernel_rfl) (by kernel_rfl) (by kernel_rfl) ?hq8 ?hy8 (by assumption) ?hr8
              case hi8 => (simp only [List.getElem?_toArray, List.getElem?_cons_succ, List.getElem?_cons_zero]; rfl)
              case hy8 => ((refine .inl ⟨by rfl, ?_⟩); intro w hS; go_simp; (try with_reducible rfl))
              case hq8 => exact fun _ _ _ h => h
              (try simp only [Act.put, List.setIfInBounds_toArray, List.set_cons_zero, List.set_cons_succ])
              refine wpAnyZ_take (i := 11) (oi := ?o9) (v := ?v9) ?hi9 (by kernel_rfl) (by kernel_rfl) (by kernel_rfl) (by kernel_rfl) ?hq9 ?hy9 (by assumption) ?hr9
              case hi9 => (simp only [List.getElem?_toArray, List.getElem?_cons_succ, List.getElem?_cons_zero]; rfl)
              case hy9 => ((refine .inl ⟨by rfl, ?_⟩); intro w hS; go_simp; (try with_reducible rfl))
              case hq9 => exact fun _ _ _ h => h
              (try simp only [Act.put, List.setIfInBounds_toArray, List.set_cons_zero, List.set_cons_succ])
              refine wpAnyZ_take (i := 12) (oi := ?o10) (v := ?v10) ?hi10 (by kernel_rfl) (by kernel_rfl) (by kernel_rfl) (by kernel_rfl) ?hq10 ?hy10 (by assumption) ?hr10
              case hi10 => (simp only [List.getElem?_toArray, List.getElem?_cons_succ, List.getElem?_cons_zero]; rfl)
              case hy10 => ((refine .inl ⟨by rfl, ?_⟩); intro w hS; go_simp; (try with_reducible rfl))
              case hq10 => exact fun _ _ _ h => h
              (try simp only [Act.put, List.setIfInBounds_toArray, List.set_cons_zero, List.set_cons_succ])
              refine wpAnyZ_take (i := 13) (oi := ?o11) (v := ?v11) ?hi11 (by kernel_rfl) (by kernel_rfl) (by kernel_rfl) (by kernel_rfl) ?hq11 ?hy11 (by assumption) ?hr11
              case hi11 => (simp only [List.getElem?_toArray, List.getElem?_cons_succ, List.getElem?_cons_zero]; rfl)
              case hy11 => ((refine .inl ⟨by rfl, ?_⟩); intro w hS; go_simp; (try with_reducible rfl))
              case hq11 => exact fun _ _ _ h => h
              (try simp only [Act.put, List.setIfInBounds_toArray, List.set_cons_zero, List.set_cons_succ])
              refine wpAnyZ_one (i := 6) (by kernel_rfl) rfl (by kernel_rfl) (fun K hK => ?_)
              go_simp
              go_wp2_with ((go_at_call 35; refine (R2.out _).mono ?_; rintro e w2 ⟨rfl, hb2⟩; have o2 := own_all o1 hb2; have s2 := St.call hb2 hHeld))
              refine hK.out _ _ (s2) (fun hHeld => ?_)
              clear hK K
              (try simp only [Act.put, List.setIfInBounds_toArray, List.set_cons_zero, List.set_cons_succ])
              refine wpAnyZ_one (i := 8) (by kernel_rfl) rfl (by kernel_rfl) (fun K hK => ?_)
              go_simp
              go_wp2_with ((go_at_call 35; refine (R6.out _).mono ?_; rintro e w3 ⟨rfl, hb3⟩; have o3 := own_all o2 hb3; have s3 := St.call hb3 hHeld))
              refine hK.out _ _ (s3) (fun hHeld => ?_)
              clear hK K
              (try simp only [Act.put, List.setIfInBounds_toArray, List.set_cons_zero, List.set_cons_succ])
              refine wpAnyZ_one (i := 10) (by kernel_rfl) rfl (by kernel_rfl) (fun K hK => ?_)
              go_simp
              go_wp2_with ((go_at_call 35; refine (R8.out _).mono ?_; rintro e w4 ⟨rfl, hb4⟩; have o4 := own_all o3 hb4; have s4 := St.call hb4 hHeld))
              refine hK.out _ _ (s4) (fun hHeld => ?_)
              clear hK K
              (try simp only [Act.put, List.setIfInBounds_toArray, List.set_cons_zero, List.set_cons_succ])
              refine wpAnyZ_take (i := 14) (oi := ?o12) (v := ?v12) ?hi12 (by kernel_rfl) (by kernel_rfl) (by kernel_rfl) (by kernel_rfl) ?hq12 ?hy12 (by assumption) ?hr12
              case hi12 => (simp only [List.getElem?_toArray, List.getElem?_cons_succ, List.getElem?_cons_zero]; rfl)
              case hy12 => ((refine .inl ⟨by rfl, ?_⟩); intro w hS; go_simp; (try with_reducible rfl))
              case hq12 => exact fun _ _ _ h => h
              (try simp only [Act.put, List.setIfInBounds_toArray, List.set_cons_zero, List.set_cons_succ])
              refine wpAnyZ_one (i := 15) (by kernel_rfl) rfl (by kernel_rfl) (fun K hK => ?_)
              go_simp
              refine hK.out _ _ (St.other hHeld _) (fun hHeld => ?_)
              clear hK K
              (try simp only [Act.put, List.setIfInBounds_toArray, List.set_cons_zero, List.set_cons_succ])
              refine wpAnyZ_one (i := 16) (by kernel_rfl) rfl (by kernel_rfl) (fun K hK => ?_)
              refine step_appN (w := w4) o4 rfl info_img Try.underlying22 rfl (by decide) (us := [.int .i64 p, .int .i64 (x[1].toNat : Int), .int .i64 r2, .int .i64 r6, .int .i64 r8, .bool true]) rfl (by unfold maxLen; omega) (by omega) (by have := s4.lt (i := 0) rfl; omega) (by intro u hu; simp only [List.mem_cons, List.not_mem_nil, or_false] at hu; rcases hu with rfl | rfl | rfl | rfl | rfl | rfl <;> rfl) rfl rfl (by rfl) (by rfl) rfl ?_; intro v5 w5 o5 hb5 hg5; have s5 := St.grown_own s4 o4 hg5 (by omega) dRows_lt; obtain ⟨g5, cap5, hv5, _, _, _⟩ := own_form o5 (Nat.succ_pos _); subst hv5; have q5 := (s5.at (i := 6) rfl).cell; have f5 := (s5.at (i := 6) rfl).frozen
              refine hK.out _ _ (s5) (fun hHeld => ?_)
              clear hK K
              (try simp only [Act.put, List.setIfInBounds_toArray])
              refine wpAnyZ_last (by kernel_rfl) rfl (fun K hK => ?_)
              go_simp
              refine hK.out _ _ ?_
              clear hK K
              (try simp only [Act.put])
              refine wpAnyZ_done (by kernel_rfl) ?_ _
              have s6 : St w _ (dRows w.heap.size s dZ dE (.slice (some ⟨g5, 0, none⟩) (out.length + 1) cap5) false ⟨p, lf - 1, mo, hd, out⟩) := s5.set 6 rfl 0 (.slice (some ⟨g5, 0, none⟩) (out.length + 1) cap5)
              have o6 := own_set (j := 0) (u := .slice (some ⟨g5, 0, none⟩) (out.length + 1) cap5) o5 (g := w.heap.size + 1 + 1) (by omega)
              rw [show flat encI out ++ [.int .i64 p, .int .i64 (x[1].toNat : Int), .int .i64 r2, .int .i64 r6, .int .i64 r8, .bool true] = flat encI (out ++ [⟨p, (x[1].toNat : Int), r2, r6, r8, true⟩]) from (flat_snoc encI out ⟨p, (x[1].toNat : Int), r2, r6, r8, true⟩).symm] at o6
              have ko6 := ((((((KeepsOthers.setCell W ⟨w.heap.size + 1 + 1 + 1 + 1, 0, none⟩ (.int .i64 (lf - 1))).trans (KeepsOthers.drew _)).trans (kept_below hb2)).trans (kept_below hb3)).trans (kept_below hb4)).trans (KeepsOthers.of_grownBy hg5 (own_cells o4))).trans (KeepsOthers.setCell w5 ⟨w.heap.size + 1 + 1, 0, none⟩ (.slice (some ⟨g5, 0, none⟩) (out.length + 1) cap5))
              clear ew hHeld s2 s3 s4 s5 o1 o2 o3 o4 o5 hb2 hb3 hb4 hb5 hg5 q5 f5 h1
              generalize (w5.setCell ⟨w.heap.size + 1 + 1, 0, none⟩ (.slice (some ⟨g5, 0, none⟩) (out.length + 1) cap5)) = W6 at *
              have hl1 : (out ++ [(⟨p, (x[1].toNat : Int), r2, r6, r8, true⟩ : Img)]).length = out.length + 1 := by simp
              have qleftz := (s6.at (i := 4) rfl).cell
              have fleftz := (s6.at (i := 4) rfl).frozen
              have qmorez := (s6.at (i := 3) rfl).cell
              have fmorez := (s6.at (i := 3) rfl).frozen
              have qoutz := (s6.at (i := 6) rfl).cell
              have foutz := (s6.at (i := 6) rfl).frozen
              have qresz := (s6.at (i := 8) rfl).cell
              have fresz := (s6.at (i := 8) rfl).frozen
              have qerrz := (s6.at (i := 7) rfl).cell
              have ferrz := (s6.at (i := 7) rfl).frozen
              cases mo with
              | true =>
                by_cases hz : lf - 1 = 0
                · have hzb : ((lf - 1) == 0) = true := by rw [beq_iff_eq]; exact hz
                  have HZ := Lib.hid hz
                  clear hz
                  gi_wp2
                  exact ⟨ko6.from _, fun _ => s6.at (i := 0) rfl, (.slice (some ⟨g5, 0, none⟩) (out.length + 1) cap5), false, ⟨p, lf - 1, true, hd, out ++ [⟨p, (x[1].toNat : Int), r2, r6, r8, true⟩]⟩, ⟨s6, (by rw [List.length_append]; exact o6)⟩, HI.out.next HST.out (by simp [endD]), by dsimp only; omega, by dsimp only; simp; omega, by dsimp only; omega, by dsimp only; omega, by dsimp only; simp; omega⟩
                · have hzb : ((lf - 1) == 0) = false := by rw [beq_eq_false_iff_ne]; exact hz
                  have HZ := Lib.hid hz
                  clear hz
                  gi_wp2
                  exact ⟨ko6.from _, fun _ => s6.at (i := 0) rfl, (.slice (some ⟨g5, 0, none⟩) (out.length + 1) cap5), false, ⟨p, lf - 1, true, hd, out ++ [⟨p, (x[1].toNat : Int), r2, r6, r8, true⟩]⟩, ⟨s6, (by rw [List.length_append]; exact o6)⟩, HI.out.next HST.out (by simp [endD]), by dsimp only; omega, by dsimp only; simp; omega, by dsimp only; omega, by dsimp only; omega, by dsimp only; simp; omega⟩
              | false =>
                by_cases hz : lf - 1 = 0
                · have hzb : ((lf - 1) == 0) = true := by rw [beq_iff_eq]; exact hz
                  have HZ := Lib.hid hz
                  clear hz
                  gi_wp2
                  have hr' := (s6.set 8 rfl 0 (.slice (some ⟨g5, 0, none⟩) (out.length + 1) cap5)).set 7 rfl 0 (.int .i64 0)
                  exact ⟨(ko6.trans ((KeepsOthers.setCell _ _ _).trans (KeepsOthers.setCell _ _ _))).from _, rfl, hr'.bel, (0, (out ++ [⟨p, (x[1].toNat : Int), r2, r6, r8, true⟩])), (.slice (some ⟨g5, 0, none⟩) (out.length + 1) cap5), HI.out.fin HST.out (by simp [endD, HZ.out]), hr'.at (i := 8) rfl, hr'.at (i := 7) rfl, own_set (j := 0) (u := .int .i64 0) (own_set (j := 0) (u := (.slice (some ⟨g5, 0, none⟩) (out.length + 1) cap5)) (by rw [List.length_append]; exact o6) (g := w.heap.size) (by omega)) (g := w.heap.size + 1) (by omega)⟩
                · have hzb : ((lf - 1) == 0) = false := by rw [beq_eq_false_iff_ne]; exact hz
                  have HZ := Lib.hid hz
                  clear hz
                  gi_wp2
                  try (refine ⟨trivial, ?_⟩; gi_wp2)
                  exact ⟨ko6.from _, fun _ => s6.at (i := 0) rfl, (.slice (some ⟨g5, 0, none⟩) (out.length + 1) cap5), false, ⟨p, lf - 1, false, hd, out ++ [⟨p, (x[1].toNat : Int), r2, r6, r8, true⟩]⟩, ⟨s6, (by rw [List.length_append]; exact o6)⟩, HI.out.next HST.out (by simp [endD, HZ.out]), by dsimp only; omega, by dsimp only; simp; omega, by dsimp only; omega, by dsimp only; omega, by dsimp only; simp; omega⟩
            · have HST : Hid (stepD ⟨p, lf, mo, hd, out⟩ (byt ⟨x, hx⟩) = .inr ⟨p, lf - 1, mo, hd, out ++ [⟨p, (x[1].toNat : Int), rdL x.data.toList 2 2, rdL x.data.toList 6 2, rdL x.data.toList 8 4, false⟩]⟩) := Lib.hid (by rw [hst.out]; dsimp only; rw [HIM.out, k0]; rfl)
              clear hst HIM
              have h1 : St w _ (dRows w.heap.size s dZ dE v false ⟨p, lf - 1, mo, hd, out⟩) := HM.out.rows.set 4 rfl 0 (.int .i64 (lf - 1))
              have o1 := own_drewN (own_set (j := 0) (u := .int .i64 (lf - 1)) HM.out.own (g := w.heap.size + 1 + 1 + 1 + 1) (by omega)) 1
              dsimp only at o1
              generalize hr2 : rdL x.data.toList 2 2 = r2 at *
              generalize hr6 : rdL x.data.toList 6 2 = r6 at *
              generalize hr8 : rdL x.data.toList 8 4 = r8 at *
              have R2 := Lib.hid (fun w => read_any x hx 2 2 (by omega) (by omega) (by omega) w)
              have R6 := Lib.hid (fun w => read_any x hx 6 2 (by omega) (by omega) (by omega) w)
              have R8 := Lib.hid (fun w => read_any x hx 8 4 (by omega) (by omega) (by omega) w)
              rw [hr2] at R2
              rw [hr6] at R6
              rw [hr8] at R8
              clear hr2 hr6 hr8
              gi_wp2
              have ew : IntKind.i64.wrap (x[1].toNat : Int) = (x[1].toNat : Int) := IntWalk.i64_in _ (by omega)
              refine wpIn_Z_of (S := fun w' => St w w' (dRows w.heap.size s dZ dE v false ⟨p, lf - 1, mo, hd, out⟩)) 17 (by kernel_rfl) (by kernel_rfl) (by rintro ⟨a, w, h⟩; exact h) h1.drew (fun hHeld => ?_)
              refine wpAnyZ_take (i := 0) (oi := ?o13) (v := ?v13) ?hi13 (by kernel_rfl) (by kernel_rfl) (by kernel_rfl) (by kernel_rfl) ?hq13 ?hy13 (by assumption) ?hr13
              case hi13 => (simp only [List.getElem?_toArray, List.getElem?_cons_zero]; rfl)
              case hy13 => ((refine .inl ⟨by rfl, ?_⟩); intro w hS; have q := (St.at hS (i := 6) rfl).cell; go_simp; (try with_reducible rfl))
              case hq13 => exact fun _ _ _ h => h
              (try simp only [Act.put, List.setIfInBounds_toArray, List.set_cons_zero, List.set_cons_succ])
              refine wpAnyZ_take (i := 1) (oi := ?o14) (v := ?v14) ?hi14 (by kernel_rfl) (by kernel_rfl) (by kernel_rfl) (by kernel_rfl) ?hq14 ?hy14 (by assumption) ?hr14
              case hi14 => (simp only [List.getElem?_toArray, List.getElem?_cons_succ, List.getElem?_cons_zero]; rfl)
              case hy14 => ((refine .inl ⟨by rfl, ?_⟩); intro w hS; have q := (St.at hS (i := 5) rfl).cell; go_simp; (try with_reducible rfl))
              case hq14 => exact fun _ _ _ h => h
              (try simp only [Act.put, List.setIfInBounds_toArray, List.set_cons_zero, List.set_cons_succ])
              refine wpAnyZ_take (i := 2) (oi := ?o15) (v := ?v15) ?hi15 (by kernel_rfl) (by kernel_rfl) (by kernel_rfl) (by kernel_rfl) ?hq15 ?hy15 (by assumption) ?hr15
              case hi15 => (simp only [List.getElem?_toArray, List.getElem?_cons_succ, List.getElem?_cons_zero]; rfl)
              case hy15 => ((refine .inl ⟨by rfl, ?_⟩); intro w hS; go_simp; (try with_reducible rfl))
              case hq15 => exact fun _ _ _ h => h
              (try simp only [Act.put, List.setIfInBounds_toArray, List.set_cons_zero, List.set_cons_succ])
              refine wpAnyZ_take (i := 3) (oi := ?o16) (v := ?v16) ?hi16 (by kernel_rfl) (by kernel_rfl) (by kernel_rfl) (by kernel_rfl) ?hq16 ?hy16 (by assumption) ?hr16
              case hi16 => (simp only [List.getElem?_toArray, List.getElem?_cons_succ, List.getElem?_cons_zero]; rfl)
              case hy16 => ((refine .inl ⟨by rfl, ?_⟩); intro w hS; go_simp; (try with_reducible rfl))
              case hq16 => exact fun _ _ _ h => h
              (try simp only [Act.put, List.setIfInBounds_toArray, List.set_cons_zero, List.set_cons_succ])
              refine wpAnyZ_take (i := 4) (oi := ?o17) (v := ?v17) ?hi17 (by kernel_rfl) (by kernel_rfl) (by kernel_rfl) (by kernel_rfl) ?hq17 ?hy17 (by assumption) ?hr17
              case hi17 => (simp only [List.getElem?_toArray, List.getElem?_cons_succ, List.getElem?_cons_zero]; rfl)
              case hy17 => ((refine .inl ⟨by rfl, ?_⟩); intro w hS; go_simp; (try with_reducible rfl))
              case hq17 => exact fun _ _ _ h => h
              (try simp only [Act.put, List.setIfInBounds_toArray, List.set_cons_zero, List.set_cons_succ])
              refine wpAnyZ_take (i := 5) (oi := ?o18) (v := ?v18) ?hi18 (by kernel_rfl) (by kernel_rfl) (by kernel_rfl) (by kernel_rfl) ?hq18 ?hy18 (by assumption) ?hr18
              case hi18 => (simp only [List.getElem?_toArray, List.getElem?_cons_succ, List.getElem?_cons_zero]; rfl)
              case hy18 => ((refine .inl ⟨by rfl, ?_⟩); intro w hS; go_simp; (try with_reducible rfl))
              case hq18 => exact fun _ _ _ h => h
              (try simp only [Act.put, List.setIfInBounds_toArray, List.set_cons_zero, List.set_cons_succ])
              refine wpAnyZ_take (i := 7) (oi := ?o19) (v := ?v19) ?hi19 (by kernel_rfl) (by kernel_rfl) (by kernel_rfl) (by kernel_rfl) ?hq19 ?hy19 (by assumption) ?hr19
              case hi19 => (simp only [List.getElem?_toArray, List.getElem?_cons_succ, List.getElem?_cons_zero]; rfl)
              case hy19 => ((refine .inl ⟨by rfl, ?_⟩); intro w hS; go_simp; (try with_reducible rfl))
              case hq19 => exact fun _ _ _ h => h
              (try simp only [Act.put, List.setIfInBounds_toArray, List.set_cons_zero, List.set_cons_succ])
              refine wpAnyZ_take (i := 9) (oi := ?o20) (v := ?v20) ?hi20 (by kernel_rfl) (by kernel_rfl) (by kernel_rfl) (by kernel_rfl) ?hq20 ?hy20 (by assumption) ?hr20
              case hi20 => (simp only [List.getElem?_toArray, List.getElem?_cons_succ, List.getElem?_cons_zero]; rfl)
              case hy20 => ((refine .inl ⟨by rfl, ?_⟩); intro w hS; go_simp; (try with_reducible rfl))
              case hq20 => exact fun _ _ _ h => h
              (try simp only [Act.put, List.setIfInBounds_toArray, List.set_cons_zero, List.set_cons_succ])
              refine wpAnyZ_take (i := 11) (oi := ?o21) (v := ?v21) ?hi21 (by kernel_rfl) (by kernel_rfl) (by kernel_rfl) (by kernel_rfl) ?hq21 ?hy21 (by assumption) ?hr21
              case hi21 => (simp only [List.getElem?_toArray, List.getElem?_cons_succ, List.getElem?_cons_zero]; rfl)
              case hy21 => ((refine .inl ⟨by rfl, ?_⟩); intro w hS; go_simp; (try with_reducible rfl))
              case hq21 => exact fun _ _ _ h => h
              (try simp only [Act.put, List.setIfInBounds_toArray, List.set_cons_zero, List.set_cons_succ])
              refine wpAnyZ_take (i := 12) (oi := ?o22) (v := ?v22) ?hi22 (by kernel_rfl) (by kernel_rfl) (by kernel_rfl) (by kernel_rfl) ?hq22 ?hy22 (by assumption) ?hr22
              case hi22 => (simp only [List.getElem?_toArray, List.getElem?_cons_succ, List.getElem?_cons_zero]; rfl)
              case hy22 => ((refine .inl ⟨by rfl, ?_⟩); intro w hS; go_simp; (try with_reducible rfl))
              case hq22 => exact fun _ _ _ h => h
              (try simp only [Act.put, List.setIfInBounds_toArray, List.set_cons_zero, List.set_cons_succ])
              refine wpAnyZ_take (i := 13) (oi := ?o23) (v := ?v23) ?hi23 (by kernel_rfl) (by kernel_rfl) (by kernel_rfl) (by kernel_rfl) ?hq23 ?hy23 (by assumption) ?hr23
              case hi23 => (simp only [List.getElem?_toArray, List.getElem?_cons_succ, List.getElem?_cons_zero]; rfl)
              case hy23 => ((refine .inl ⟨by rfl, ?_⟩); intro w hS; go_simp; (try with_reducible rfl))
              case hq23 => exact fun _ _ _ h => h
              (try simp only [Act.put, List.setIfInBounds_toArray, List.set_cons_zero, List.set_cons_succ])
              refine wpAnyZ_one (i := 6) (by kernel_rfl) rfl (by kernel_rfl) (fun K hK => ?_)
              go_simp
              go_wp2_with ((go_at_call 35; refine (R2.out _).mono ?_; rintro e w2 ⟨rfl, hb2⟩; have o2 := own_all o1 hb2; have s2 := St.call hb2 hHeld))
              refine hK.out _ _ (s2) (fun hHeld => ?_)
              clear hK K
              (try simp only [Act.put, List.setIfInBounds_toArray, List.set_cons_zero, List.set_cons_succ])
              refine wpAnyZ_one (i := 8) (by kernel_rfl) rfl (by kernel_rfl) (fun K hK => ?_)
              go_simp
              go_wp2_with ((go_at_call 35; refine (R6.out _).mono ?_; rintro e w3 ⟨rfl, hb3⟩; have o3 := own_all o2 hb3; have s3 := St.call hb3 hHeld))
              refine hK.out _ _ (s3) (fun hHeld => ?_)
              clear hK K
              (try simp only [Act.put, List.setIfInBounds_toArray, List.set_cons_zero, List.set_cons_succ])
              refine wpAnyZ_one (i := 10) (by kernel_rfl) rfl (by kernel_rfl) (fun K hK => ?_)
              go_simp
              go_wp2_with ((go_at_call 35; refine (R8.out _).mono ?_; rintro e w4 ⟨rfl, hb4⟩; have o4 := own_all o3 hb4; have s4 := St.call hb4 hHeld))
              refine hK.out _ _ (s4) (fun hHeld => ?_)
              clear hK K
              (try simp only [Act.put, List.setIfInBounds_toArray, List.set_cons_zero, List.set_cons_succ])
              refine wpAnyZ_take (i := 14) (oi := ?o24) (v := ?v24) ?hi24 (by kernel_rfl) (by kernel_rfl) (by kernel_rfl) (by kernel_rfl) ?hq24 ?hy24 (by assumption) ?hr24
              case hi24 => (simp only [List.getElem?_toArray, List.getElem?_cons_succ, List.getElem?_cons_zero]; rfl)
              case hy24 => ((refine .inl ⟨by rfl, ?_⟩); intro w hS; go_simp; (try with_reducible rfl))
              case hq24 => exact fun _ _ _ h => h
              (try simp only [Act.put, List.setIfInBounds_toArray, List.set_cons_zero, List.set_cons_succ])
              refine wpAnyZ_one (i := 15) (by kernel_rfl) rfl (by kernel_rfl) (fun K hK => ?_)
              go_simp
              refine hK.out _ _ (St.other hHeld _) (fun hHeld => ?_)
              clear hK K
              (try simp only [Act.put, List.setIfInBounds_toArray, List.set_cons_zero, List.set_cons_succ])
              refine wpAnyZ_one (i := 16) (by kernel_rfl) rfl (by kernel_rfl) (fun K hK => ?_)
              refine step_appN (w := w4) o4 rfl info_img Try.underlying22 rfl (by decide) (us := [.int .i64 p, .int .i64 (x[1].toNat : Int), .int .i64 r2, .int .i64 r6, .int .i64 r8, .bool false]) rfl (by unfold maxLen; omega) (by omega) (by have := s4.lt (i := 0) rfl; omega) (by intro u hu; simp only [List.mem_cons, List.not_mem_nil, or_false] at hu; rcases hu with rfl | rfl | rfl | rfl | rfl | rfl <;> rfl) rfl rfl (by rfl) (by rfl) rfl ?_; intro v5 w5 o5 hb5 hg5; have s5 := St.grown_own s4 o4 hg5 (by omega) dRows_lt; obtain ⟨g5, cap5, hv5, _, _, _⟩ := own_form o5 (Nat.succ_pos _); subst hv5; have q5 := (s5.at (i := 6) rfl).cell; have f5 := (s5.at (i := 6) rfl).frozen
              refine hK.out _ _ (s5) (fun hHeld => ?_)
              clear hK K
              (try simp only [Act.put, List.setIfInBounds_toArray])
              refine wpAnyZ_last (by kernel_rfl) rfl (fun K hK => ?_)
              go_simp
              refine hK.out _ _ ?_
              clear hK K
              (try simp only [Act.put])
              refine wpAnyZ_done (by kernel_rfl) ?_ _
              have s6 : St w _ (dRows w.heap.size s dZ dE (.slice (some ⟨g5, 0, none⟩) (out.length + 1) cap5) false ⟨p, lf - 1, mo, hd, out⟩) := s5.set 6 rfl 0 (.slice (some ⟨g5, 0, none⟩) (out.length + 1) cap5)
              have o6 := own_set (j := 0) (u := .slice (some ⟨g5, 0, none⟩) (out.length + 1) cap5) o5 (g := w.heap.size + 1 + 1) (by omega)
              rw [show flat encI out ++ [.int .i64 p, .int .i64 (x[1].toNat : Int), .int .i64 r2, .int .i64 r6, .int .i64 r8, .bool false] = flat encI (out ++ [⟨p, (x[1].toNat : Int), r2, r6, r8, false⟩]) from (flat_snoc encI out ⟨p, (x[1].toNat : Int), r2, r6, r8, false⟩).symm] at o6
              have ko6 := ((((((KeepsOthers.setCell W ⟨w.heap.size + 1 + 1 + 1 + 1, 0, none⟩ (.int .i64 (lf - 1))).trans (KeepsOthers.drew _)).trans (kept_below hb2)).trans (kept_below hb3)).trans (kept_below hb4)).trans (KeepsOthers.of_grownBy hg5 (own_cells o4))).trans (KeepsOthers.setCell w5 ⟨w.heap.size + 1 + 1, 0, none⟩ (.slice (some ⟨g5, 0, none⟩) (out.length + 1) cap5))
              clear ew hHeld s2 s3 s4 s5 o1 o2 o3 o4 o5 hb2 hb3 hb4 hb5 hg5 q5 f5 h1
              generalize (w5.setCell ⟨w.heap.size + 1 + 1, 0, none⟩ (.slice (some ⟨g5, 0, none⟩) (out.length + 1) cap5)) = W6 at *
              have hl1 : (out ++ [(⟨p, (x[1].toNat : Int), r2, r6, r8, false⟩ : Img)]).length = out.length + 1 := by simp
              have qleftz := (s6.at (i := 4) rfl).cell
              have fleftz := (s6.at (i := 4) rfl).frozen
              have qmorez := (s6.at (i := 3) rfl).cell
              have fmorez := (s6.at (i := 3) rfl).frozen
              have qoutz := (s6.at (i := 6) rfl).cell
              have foutz := (s6.at (i := 6) rfl).frozen
              have qresz := (s6.at (i := 8) rfl).cell
              have fresz := (s6.at (i := 8) rfl).frozen
              have qerrz := (s6.at (i := 7) rfl).cell
              have ferrz := (s6.at (i := 7) rfl).frozen
              cases mo with
              | true =>
                by_cases hz : lf - 1 = 0
                · have hzb : ((lf - 1) == 0) = true := by rw [beq_iff_eq]; exact hz
                  have HZ := Lib.hid hz
                  clear hz
                  gi_wp2
                  exact ⟨ko6.from _, fun _ => s6.at (i := 0) rfl, (.slice (some ⟨g5, 0, none⟩) (out.length + 1) cap5), false, ⟨p, lf - 1, true, hd, out ++ [⟨p, (x[1].toNat : Int), r2, r6, r8, false⟩]⟩, ⟨s6, (by rw [List.length_append]; exact o6)⟩, HI.out.next HST.out (by simp [endD]), by dsimp only; omega, by dsimp only; simp; omega, by dsimp only; omega, by dsimp only; omega, by dsimp only; simp; omega⟩
                · have hzb : ((lf - 1) == 0) = false := by rw [beq_eq_false_iff_ne]; exact hz
                  have HZ := Lib.hid hz
                  clear hz
                  gi_wp2
                  exact ⟨ko6.from _, fun _ => s6.at (i := 0) rfl, (.slice (some ⟨g5, 0, none⟩) (out.length + 1) cap5), false, ⟨p, lf - 1, true, hd, out ++ [⟨p, (x[1].toNat : Int), r2, r6, r8, false⟩]⟩, ⟨s6, (by rw [List.length_append]; exact o6)⟩, HI.out.next HST.out (by simp [endD]), by dsimp only; omega, by dsimp only; simp; omega, by dsimp only; omega, by dsimp only; omega, by dsimp only; simp; omega⟩
              | false =>
                by_cases hz : lf - 1 = 0
                · have hzb : ((lf - 1) == 0) = true := by rw [beq_iff_eq]; exact hz
                  have HZ := Lib.hid hz
                  clear hz
                  gi_wp2
                  have hr' := (s6.set 8 rfl 0 (.slice (some ⟨g5, 0, none⟩) (out.length + 1) cap5)).set 7 rfl 0 (.int .i64 0)
                  exact ⟨(ko6.trans ((KeepsOthers.setCell _ _ _).trans (KeepsOthers.setCell _ _ _))).from _, rfl, hr'.bel, (0, (out ++ [⟨p, (x[1].toNat : Int), r2, r6, r8, false⟩])), (.slice (some ⟨g5, 0, none⟩) (out.length + 1) cap5), HI.out.fin HST.out (by simp [endD, HZ.out]), hr'.at (i := 8) rfl, hr'.at (i := 7) rfl, own_set (j := 0) (u := .int .i64 0) (own_set (j := 0) (u := (.slice (some ⟨g5, 0, none⟩) (out.length + 1) cap5)) (by rw [List.length_append]; exact o6) (g := w.heap.size) (by omega)) (g := w.heap.size + 1) (by omega)⟩
                · have hzb : ((lf - 1) == 0) = false := by rw [beq_eq_false_iff_ne]; exact hz
                  have HZ := Lib.hid hz
                  clear hz
                  gi_wp2
                  try (refine ⟨trivial, ?_⟩; gi_wp2)
                  exact ⟨ko6.from _, fun _ => s6.at (i := 0) rfl, (.slice (some ⟨g5, 0, none⟩) (out.length + 1) cap5), false, ⟨p, lf - 1, false, hd, out ++ [⟨p, (x[1].toNat : Int), r2, r6, r8, false⟩]⟩, ⟨s6, (by rw [List.length_append]; exact o6)⟩, HI.out.next HST.out (by simp [endD, HZ.out]), by dsimp only; omega, by dsimp only; simp; omega, by dsimp only; omega, by dsimp only; omega, by dsimp only; simp; omega⟩
          · have K1 : Hid (4 < byteL (byt ⟨x, hx⟩) 1) := Lib.hid (by rw [B1.out]; omega)
            have k1' : decide (4 < x[1].toNat) = true := decide_eq_true (by omega)
            rcases k0 with k0 | k0
            all_goals
              gi_wp2
              have hr' := ((HM.out.rows.set 4 rfl 0 (.int .i64 (lf - 1))).set 8 rfl 0 dZ).set 7 rfl 0 (.int .i64 14)
              exact ⟨(((KeepsOthers.setCell _ _ _).trans (KeepsOthers.setCell _ _ _)).trans (KeepsOthers.setCell _ _ _)).from _, rfl, hr'.bel, (14, []), dZ, HI.out.ans (step_bad2 hlf K0.out K1.out), hr'.at (i := 8) rfl, hr'.at (i := 7) rfl, World.ownsRow_nil _ _ _ _⟩
        · have k0' : ((x[0].toNat : Int) != 136) = true := by rw [bne_iff_ne]; omega
          have k0'' : ((x[0].toNat : Int) != 0) = true := by rw [bne_iff_ne]; omega
          have K0 : Hid (byteL (byt ⟨x, hx⟩) 0 ≠ 136 ∧ byteL (byt ⟨x, hx⟩) 0 ≠ 0) := Lib.hid (by rw [B0.out]; omega)
          clear k0
          gi_wp2
          have hr' := ((HM.out.rows.set 4 rfl 0 (.int .i64 (lf - 1))).set 8 rfl 0 dZ).set 7 rfl 0 (.int .i64 10)
          exact ⟨(((KeepsOthers.setCell _ _ _).trans (KeepsOthers.setCell _ _ _)).trans (KeepsOthers.setCell _ _ _)).from _, rfl, hr'.bel, (10, []), dZ, HI.out.ans (step_bad1 hlf K0.out.1 K0.out.2), hr'.at (i := 8) rfl, hr'.at (i := 7) rfl, World.ownsRow_nil _ _ _ _⟩
      · obtain rfl : lf = 0 := by omega
        by_cases ka : (x[0].toNat : Int) = 0 ∧ hd = 0
        · obtain ⟨k0, rfl⟩ := ka
          have HST : Hid (stepD ⟨p, 0, mo, 0, out⟩ (byt ⟨x, hx⟩) = .inl (0, out)) := Lib.hid (step_none (by dsimp only; omega) (by rw [B0.out]; exact k0) rfl)
          obtain ⟨vA, vc, hv⟩ := own_slice HM.out.own
          subst hv
          gi_wp2
          have hr' := (HM.out.rows.set 8 rfl 0 (.slice vA out.length vc)).set 7 rfl 0 (.int .i64 0)
          exact ⟨((KeepsOthers.setCell _ _ _).trans (KeepsOthers.setCell _ _ _)).from _, rfl, hr'.bel, (0, out), (.slice vA out.length vc), HI.out.ans HST.out, hr'.at (i := 8) rfl, hr'.at (i := 7) rfl, own_set (j := 0) (u := .int .i64 0) (own_set (j := 0) (u := .slice vA out.length vc) HM.out.own (g := w.heap.size) (by omega)) (g := w.heap.size + 1) (by omega)⟩
        · by_cases kb : (x[0].toNat : Int) = 144 ∨ (x[0].toNat : Int) = 145
          · rcases kb with k0 | k0
            · have K0 : Hid (byteL (byt ⟨x, hx⟩) 0 = 144) := Lib.hid (by rw [B0.out]; exact k0)
              clear ka
              gi_wp2
              refine ⟨trivial, ?_⟩
              refine (CallsIn.inRound l (callsIn_wide.2 (isplat_any _ _))).mono ?_
              rintro e w2 ⟨rfl, hb2⟩
              have h2 : St w w2 (dRows w.heap.size s dZ dE v false ⟨(x[1].toNat : Int), 0, mo, hd, out⟩) := St.call hb2 (HM.out.rows.set 5 rfl 0 (.int .i64 (x[1].toNat : Int)))
              have o2 := own_all (own_set (j := 0) (u := .int .i64 (x[1].toNat : Int)) HM.out.own (g := w.heap.size + 1 + 1 + 1) (by omega)) hb2
              dsimp only at o2
              have ko2 := (KeepsOthers.setCell W ⟨w.heap.size + 1 + 1 + 1, 0, none⟩ (.int .i64 (x[1].toNat : Int))).trans (kept_below hb2)
              clear hb2 qplat qleft qmore qfirst qres qerr qheads qout fplat fleft fmore ffirst fres ferr fheads fout
              have qres2 := (h2.at (i := 8) rfl).cell
              have fres2 := (h2.at (i := 8) rfl).frozen
              have qerr2 := (h2.at (i := 7) rfl).cell
              have ferr2 := (h2.at (i := 7) rfl).frozen
              have qleft2 := (h2.at (i := 4) rfl).cell
              have fleft2 := (h2.at (i := 4) rfl).frozen
              have qmore2 := (h2.at (i := 3) rfl).cell
              have fmore2 := (h2.at (i := 3) rfl).frozen
              have qheads2 := (h2.at (i := 1) rfl).cell
              have fheads2 := (h2.at (i := 1) rfl).frozen
              cases hpl : platB (x[1].toNat : Int) with
              | false =>
                have HST : Hid (stepD ⟨p, 0, mo, hd, out⟩ (byt ⟨x, hx⟩) = .inl (14, [])) := Lib.hid (step_bad4 (by dsimp only; omega) (by rw [K0.out]; omega) (by rw [B1.out]; exact hpl))
                clear hpl
                gi_wp2
                have hr' := (h2.set 8 rfl 0 dZ).set 7 rfl 0 (.int .i64 14)
                exact ⟨(ko2.trans ((KeepsOthers.setCell _ _ _).trans (KeepsOthers.setCell _ _ _))).from _, rfl, hr'.bel, (14, []), dZ, HI.out.ans HST.out, hr'.at (i := 8) rfl, hr'.at (i := 7) rfl, World.ownsRow_nil _ _ _ _⟩
              | true =>
                have HST : Hid (stepD ⟨p, 0, mo, hd, out⟩ (byt ⟨x, hx⟩) = .inr ⟨(x[1].toNat : Int), rdL x.data.toList 2 2, true, hd + 1, out⟩) := Lib.hid (by rw [step_hdr (by dsimp only; omega) (by rw [K0.out]; omega) (by rw [B1.out]; exact hpl), K0.out, B1.out]; rfl)
                have rb := rdL_bd2 x.data.toList 2
                generalize rdL x.data.toList 2 2 = r2 at *
                obtain ⟨rb0, rb1⟩ := rb
                clear hpl
                gi_wp2
                refine wpIn_Z_of (S := fun _ => True) 6 (by kernel_rfl) (by kernel_rfl) (by rintro ⟨a, w, h⟩; exact h) trivial (fun hHeld => ?_)
                refine wpAnyZ_take (i := 0) (oi := ?o25) (v := ?v25) ?hi25 (by kernel_rfl) (by kernel_rfl) (by kernel_rfl) (by kernel_rfl) ?hq25 ?hy25 (by assumption) ?hr25
                case hi25 => (simp only [List.getElem?_toArray, List.getElem?_cons_zero]; rfl)
                case hy25 => ((refine .inl ⟨by rfl, ?_⟩); intro w hS; go_simp; (try with_reducible rfl))
                case hq25 => exact fun _ _ _ h => h
                (try simp only [Act.put, List.setIfInBounds_toArray, List.set_cons_zero, List.set_cons_succ])
                refine wpAnyZ_take (i := 2) (oi := ?o26) (v := ?v26) ?hi26 (by kernel_rfl) (by kernel_rfl) (by kernel_rfl) (by kernel_rfl) ?hq26 ?hy26 (by assumption) ?hr26
                case hi26 => (simp only [List.getElem?_toArray, List.getElem?_cons_succ, List.getElem?_cons_zero]; rfl)
                case hy26 => ((refine .inl ⟨by rfl, ?_⟩); intro w hS; go_simp; (try with_reducible rfl))
                case hq26 => exact fun _ _ _ h => h
                (try simp only [Act.put, List.setIfInBounds_toArray, List.set_cons_zero, List.set_cons_succ])
                refine wpAnyZ_take (i := 3) (oi := ?o27) (v := ?v27) ?hi27 (by kernel_rfl) (by kernel_rfl) (by kernel_rfl) (by kernel_rfl) ?hq27 ?hy27 (by assumption) ?hr27
                case hi27 => (simp only [List.getElem?_toArray, List.getElem?_cons_succ, List.getElem?_cons_zero]; rfl)
                case hy27 => ((refine .inl ⟨by rfl, ?_⟩); intro w hS; go_simp; (try with_reducible rfl))
                case hq27 => exact fun _ _ _ h => h
                (try simp only [Act.put, List.setIfInBounds_toArray, List.set_cons_zero, List.set_cons_succ])
                refine wpAnyZ_take (i := 4) (oi := ?o28) (v := ?v28) ?hi28 (by kernel_rfl) (by kernel_rfl) (by kernel_rfl) (by kernel_rfl) ?hq28 ?hy28 (by assumption) ?hr28
                case hi28 => (simp only [List.getElem?_toArray, List.getElem?_cons_succ, List.getElem?_cons_zero]; rfl)
                case hy28 => ((refine .inl ⟨by rfl, ?_⟩); intro w hS; go_simp; (try with_reducible rfl))
                case hq28 => exact fun _ _ _ h => h
                (try simp only [Act.put, List.setIfInBounds_toArray, List.set_cons_zero, List.set_cons_succ])
                refine wpAnyZ_one (i := 1) (by kernel_rfl) rfl (by kernel_rfl) (fun K hK => ?_)
                go_simp
                go_wp2_with ((go_at_call 35; refine (HR2.out _).mono ?_; rintro e w3 ⟨rfl, rfl⟩))
                refine hK.out _ _ (trivial) (fun hHeld => ?_)
                clear hK K
                (try simp only [Act.put, List.setIfInBounds_toArray, List.set_cons_zero, List.set_cons_succ])
                refine wpAnyZ_one (i := 5) (by kernel_rfl) rfl (by kernel_rfl) (fun K hK => ?_)
                go_simp
                refine hK.out _ _ (trivial) (fun hHeld => ?_)
                clear hK K
                (try simp only [Act.put, List.setIfInBounds_toArray, List.set_cons_zero, List.set_cons_succ])
                refine wpAnyZ_last (by kernel_rfl) rfl (fun K hK => ?_)
                go_simp
                refine hK.out _ _ ?_
                clear hK K
                (try simp only [Act.put])
                refine wpAnyZ_done (by kernel_rfl) ?_ _
                have h3 : St w _ (dRows w.heap.size s dZ dE v false ⟨(x[1].toNat : Int), r2, true, hd, out⟩) := ((h2.set 4 rfl 0 (.int .i64 r2)).set 3 rfl 0 (.bool true)).drew
                have o3 : ((w2.setCell ⟨w.heap.size + 1 + 1 + 1 + 1, 0, none⟩ (.int .i64 r2)).setCell ⟨w.heap.size + 1 + 1 + 1 + 1 + 1, 0, none⟩ (.bool true)).drew.ownsRow (w.heap.size + 9) 34 6 v out.length (flat encI out) := own_drewN (own_set (j := 0) (u := .bool true) (own_set (j := 0) (u := .int .i64 r2) o2 (g := w.heap.size + 1 + 1 + 1 + 1) (by omega)) (g := w.heap.size + 1 + 1 + 1 + 1 + 1) (by omega)) 1
                have ko3 := ((ko2.trans (KeepsOthers.setCell w2 ⟨w.heap.size + 1 + 1 + 1 + 1, 0, none⟩ (.int .i64 r2))).trans (KeepsOthers.setCell _ ⟨w.heap.size + 1 + 1 + 1 + 1 + 1, 0, none⟩ (.bool true))).trans (KeepsOthers.drew _)
                generalize ((w2.setCell ⟨w.heap.size + 1 + 1 + 1 + 1, 0, none⟩ (.int .i64 r2)).setCell ⟨w.heap.size + 1 + 1 + 1 + 1 + 1, 0, none⟩ (.bool true)).drew = W3 at *
                clear h2 o2 ko2 qres2 qerr2 qleft2 qmore2 qheads2 fres2 ferr2 fleft2 fmore2 fheads2
                obtain ⟨vA, vc, hv⟩ := own_slice o3
                subst hv
                have qres3 := (h3.at (i := 8) rfl).cell
                have fres3 := (h3.at (i := 8) rfl).frozen
                have qerr3 := (h3.at (i := 7) rfl).cell
                have ferr3 := (h3.at (i := 7) rfl).frozen
                have qleft3 := (h3.at (i := 4) rfl).cell
                have fleft3 := (h3.at (i := 4) rfl).frozen
                have qmore3 := (h3.at (i := 3) rfl).cell
                have fmore3 := (h3.at (i := 3) rfl).frozen
                have qheads3 := (h3.at (i := 1) rfl).cell
                have fheads3 := (h3.at (i := 1) rfl).frozen
                have qout3 := (h3.at (i := 6) rfl).cell
                have fout3 := (h3.at (i := 6) rfl).frozen
                dsimp only at qleft3 qmore3 qheads3
                have h4 : St w _ (dRows w.heap.size s dZ dE (.slice vA out.length vc) false ⟨(x[1].toNat : Int), r2, true, hd + 1, out⟩) := h3.set 1 rfl 0 (.int .i64 (hd + 1))
                have o4 := own_set (j := 0) (u := .int .i64 (hd + 1)) o3 (g := w.heap.size + 1 + 1 + 1 + 1 + 1 + 1 + 1) (by omega)
                have ko4 := ko3.trans (KeepsOthers.setCell W3 ⟨w.heap.size + 1 + 1 + 1 + 1 + 1 + 1 + 1, 0, none⟩ (.int .i64 (hd + 1)))
                by_cases hz : r2 = 0
                · have hzb : (r2 == 0) = true := by rw [beq_iff_eq]; exact hz
                  have HZ := Lib.hid hz
                  clear hz
                  gi_wp2
                  try (refine ⟨trivial, ?_⟩; gi_wp2)
                  exact ⟨ko4.from _, fun _ => h4.at (i := 0) rfl, (.slice vA out.length vc), false, ⟨(x[1].toNat : Int), r2, true, hd + 1, out⟩, ⟨h4, o4⟩, HI.out.next HST.out (by simp [endD]), by dsimp only; omega, by dsimp only; simp; omega, by dsimp only; omega, by dsimp only; omega, by dsimp only; simp; omega⟩
                · have hzb : (r2 == 0) = false := by rw [beq_eq_false_iff_ne]; exact hz
                  have HZ := Lib.hid hz
                  clear hz
                  gi_wp2
                  try (refine ⟨trivial, ?_⟩; gi_wp2)
                  exact ⟨ko4.from _, fun _ => h4.at (i := 0) rfl, (.slice vA out.length vc), false, ⟨(x[1].toNat : Int), r2, true, hd + 1, out⟩, ⟨h4, o4⟩, HI.out.next HST.out (by simp [endD]), by dsimp only; omega, by dsimp only; simp; omega, by dsimp only; omega, by dsimp only; omega, by dsimp only; simp; omega⟩
            · have K0 : Hid (byteL (byt ⟨x, hx⟩) 0 = 145) := Lib.hid (by rw [B0.out]; exact k0)
              clear ka
              gi_wp2
              refine ⟨trivial, ?_⟩
              refine (CallsIn.inRound l (callsIn_wide.2 (isplat_any _ _))).mono ?_
              rintro e w2 ⟨rfl, hb2⟩
              have h2 : St w w2 (dRows w.heap.size s dZ dE v false ⟨(x[1].toNat : Int), 0, mo, hd, out⟩) := St.call hb2 (HM.out.rows.set 5 rfl 0 (.int .i64 (x[1].toNat : Int)))
              have o2 := own_all (own_set (j := 0) (u := .int .i64 (x[1].toNat : Int)) HM.out.own (g := w.heap.size + 1 + 1 + 1) (by omega)) hb2
              dsimp only at o2
              have ko2 := (KeepsOthers.setCell W ⟨w.heap.size + 1 + 1 + 1, 0, none⟩ (.int .i64 (x[1].toNat : Int))).trans (kept_below hb2)
              clear hb2 qplat qleft qmore qfirst qres qerr qheads qout fplat fleft fmore ffirst fres ferr fheads fout
              have qres2 := (h2.at (i := 8) rfl).cell
              have fres2 := (h2.at (i := 8) rfl).frozen
              have qerr2 := (h2.at (i := 7) rfl).cell
              have ferr2 := (h2.at (i := 7) rfl).frozen
              have qleft2 := (h2.at (i := 4) rfl).cell
              have fleft2 := (h2.at (i := 4) rfl).frozen
              have qmore2 := (h2.at (i := 3) rfl).cell
              have fmore2 := (h2.at (i := 3) rfl).frozen
              have qheads2 := (h2.at (i := 1) rfl).cell
              have fheads2 := (h2.at (i := 1) rfl).frozen
              cases hpl : platB (x[1].toNat : Int) with
              | false =>
                have HST : Hid (stepD ⟨p, 0, mo, hd, out⟩ (byt ⟨x, hx⟩) = .inl (14, [])) := Lib.hid (step_bad4 (by dsimp only; omega) (by rw [K0.out]; omega) (by rw [B1.out]; exact hpl))
                clear hpl
                gi_wp2
                have hr' := (h2.set 8 rfl 0 dZ).set 7 rfl 0 (.int .i64 14)
                exact ⟨(ko2.trans ((KeepsOthers.setCell _ _ _).trans (KeepsOthers.setCell _ _ _))).from _, rfl, hr'.bel, (14, []), dZ, HI.out.ans HST.out, hr'.at (i := 8) rfl, hr'.at (i := 7) rfl, World.ownsRow_nil _ _ _ _⟩
              | true =>
                have HST : Hid (stepD ⟨p, 0, mo, hd, out⟩ (byt ⟨x, hx⟩) = .inr ⟨(x[1].toNat : Int), rdL x.data.toList 2 2, false, hd + 1, out⟩) := Lib.hid (by rw [step_hdr (by dsimp only; omega) (by rw [K0.out]; omega) (by rw [B1.out]; exact hpl), K0.out, B1.out]; rfl)
                have rb := rdL_bd2 x.data.toList 2
                generalize rdL x.data.toList 2 2 = r2 at *
                obtain ⟨rb0, rb1⟩ := rb
                clear hpl
                gi_wp2
                refine wpIn_Z_of (S := fun _ => True) 6 (by kernel_rfl) (by kernel_rfl) (by rintro ⟨a, w, h⟩; exact h) trivial (fun hHeld => ?_)
                refine wpAnyZ_take (i := 0) (oi := ?o29) (v := ?v29) ?hi29 (by kernel_rfl) (by kernel_rfl) (by kernel_rfl) (by kernel_rfl) ?hq29 ?hy29 (by assumption) ?hr29
                case hi29 => (simp only [List.getElem?_toArray, List.getElem?_cons_zero]; rfl)
                case hy29 => ((refine .inl ⟨by rfl, ?_⟩); intro w hS; go_simp; (try with_reducible rfl))
                case hq29 => exact fun _ _ _ h => h
                (try simp only [Act.put, List.setIfInBounds_toArray, List.set_cons_zero, List.set_cons_succ])
                refine wpAnyZ_take (i := 2) (oi := ?o30) (v := ?v30) ?hi30 (by kernel_rfl) (by kernel_rfl) (by kernel_rfl) (by kernel_rfl) ?hq30 ?hy30 (by assumption) ?hr30
                case hi30 => (simp only [List.getElem?_toArray, List.getElem?_cons_succ, List.getElem?_cons_zero]; rfl)
                case hy30 => ((refine .inl ⟨by rfl, ?_⟩); intro w hS; go_simp; (try with_reducible rfl))
                case hq30 => exact fun _ _ _ h => h
                (try simp only [Act.put, List.setIfInBounds_toArray, List.set_cons_zero, List.set_cons_succ])
                refine wpAnyZ_take (i := 3) (oi := ?o31) (v := ?v31) ?hi31 (by kernel_rfl) (by kernel_rfl) (by kernel_rfl) (by kernel_rfl) ?hq31 ?hy31 (by assumption) ?hr31
                case hi31 => (simp only [List.getElem?_toArray, List.getElem?_cons_succ, List.getElem?_cons_zero]; rfl)
                case hy31 => ((refine .inl ⟨by rfl, ?_⟩); intro w hS; go_simp; (try with_reducible rfl))
                case hq31 => exact fun _ _ _ h => h
                (try simp only [Act.put, List.setIfInBounds_toArray, List.set_cons_zero, List.set_cons_succ])
                refine wpAnyZ_take (i := 4) (oi := ?o32) (v := ?v32) ?hi32 (by kernel_rfl) (by kernel_rfl) (by kernel_rfl) (by kernel_rfl) ?hq32 ?hy32 (by assumption) ?hr32
                case hi32 => (simp only [List.getElem?_toArray, List.getElem?_cons_succ, List.getElem?_cons_zero]; rfl)
                case hy32 => ((refine .inl ⟨by rfl, ?_⟩); intro w hS; go_simp; (try with_reducible rfl))
                case hq32 => exact fun _ _ _ h => h
                (try simp only [Act.put, List.setIfInBounds_toArray, List.set_cons_zero, List.set_cons_succ])
                refine wpAnyZ_one (i := 1) (by kernel_rfl) rfl (by kernel_rfl) (fun K hK => ?_)
                go_simp
                go_wp2_with ((go_at_call 35; refine (HR2.out _).mono ?_; rintro e w3 ⟨rfl, rfl⟩))
                refine hK.out _ _ (trivial) (fun hHeld => ?_)
                clear hK K
                (try simp only [Act.put, List.setIfInBounds_toArray, List.set_cons_zero, List.set_cons_succ])
                refine wpAnyZ_one (i := 5) (by kernel_rfl) rfl (by kernel_rfl) (fun K hK => ?_)
                go_simp
                refine hK.out _ _ (trivial) (fun hHeld => ?_)
                clear hK K
                (try simp only [Act.put, List.setIfInBounds_toArray, List.set_cons_zero, List.set_cons_succ])
                refine wpAnyZ_last (by kernel_rfl) rfl (fun K hK => ?_)
                go_simp
                refine hK.out _ _ ?_
                clear hK K
                (try simp only [Act.put])
                refine wpAnyZ_done (by kernel_rfl) ?_ _
                have h3 : St w _ (dRows w.heap.size s dZ dE v false ⟨(x[1].toNat : Int), r2, false, hd, out⟩) := ((h2.set 4 rfl 0 (.int .i64 r2)).set 3 rfl 0 (.bool false)).drew
                have o3 : ((w2.setCell ⟨w.heap.size + 1 + 1 + 1 + 1, 0, none⟩ (.int .i64 r2)).setCell ⟨w.heap.size + 1 + 1 + 1 + 1 + 1, 0, none⟩ (.bool false)).drew.ownsRow (w.heap.size + 9) 34 6 v out.length (flat encI out) := own_drewN (own_set (j := 0) (u := .bool false) (own_set (j := 0) (u := .int .i64 r2) o2 (g := w.heap.size + 1 + 1 + 1 + 1) (by omega)) (g := w.heap.size + 1 + 1 + 1 + 1 + 1) (by omega)) 1
                have ko3 := ((ko2.trans (KeepsOthers.setCell w2 ⟨w.heap.size + 1 + 1 + 1 + 1, 0, none⟩ (.int .i64 r2))).trans (KeepsOthers.setCell _ ⟨w.heap.size + 1 + 1 + 1 + 1 + 1, 0, none⟩ (.bool false))).trans (KeepsOthers.drew _)
                generalize ((w2.setCell ⟨w.heap.size + 1 + 1 + 1 + 1, 0, none⟩ (.int .i64 r2)).setCell ⟨w.heap.size + 1 + 1 + 1 + 1 + 1, 0, none⟩ (.bool false)).drew = W3 at *
                clear h2 o2 ko2 qres2 qerr2 qleft2 qmore2 qheads2 fres2 ferr2 fleft2 fmore2 fheads2
                obtain ⟨vA, vc, hv⟩ := own_slice o3
                subst hv
                have qres3 := (h3.at (i := 8) rfl).cell
                have fres3 := (h3.at (i := 8) rfl).frozen
                have qerr3 := (h3.at (i := 7) rfl).cell
                have ferr3 := (h3.at (i := 7) rfl).frozen
                have qleft3 := (h3.at (i := 4) rfl).cell
                have fleft3 := (h3.at (i := 4) rfl).frozen
                have qmore3 := (h3.at (i := 3) rfl).cell
                have fmore3 := (h3.at (i := 3) rfl).frozen
                have qheads3 := (h3.at (i := 1) rfl).cell
                have fheads3 := (h3.at (i := 1) rfl).frozen
                have qout3 := (h3.at (i := 6) rfl).cell
                have fout3 := (h3.at (i := 6) rfl).frozen
                dsimp only at qleft3 qmore3 qheads3
                have h4 : St w _ (dRows w.heap.size s dZ dE (.slice vA out.length vc) false ⟨(x[1].toNat : Int), r2, false, hd + 1, out⟩) := h3.set 1 rfl 0 (.int .i64 (hd + 1))
                have o4 := own_set (j := 0) (u := .int .i64 (hd + 1)) o3 (g := w.heap.size + 1 + 1 + 1 + 1 + 1 + 1 + 1) (by omega)
                have ko4 := ko3.trans (KeepsOthers.setCell W3 ⟨w.heap.size + 1 + 1 + 1 + 1 + 1 + 1 + 1, 0, none⟩ (.int .i64 (hd + 1)))
                by_cases hz : r2 = 0
                · have hzb : (r2 == 0) = true := by rw [beq_iff_eq]; exact hz
                  have HZ := Lib.hid hz
                  clear hz
                  gi_wp2
                  try (refine ⟨trivial, ?_⟩; gi_wp2)
                  have hr' := (h4.set 8 rfl 0 (.slice vA out.length vc)).set 7 rfl 0 (.int .i64 0)
                  exact ⟨(ko4.trans ((KeepsOthers.setCell _ _ _).trans (KeepsOthers.setCell _ _ _))).from _, rfl, hr'.bel, (0, out), (.slice vA out.length vc), HI.out.fin HST.out (by simp [endD, HZ.out]), hr'.at (i := 8) rfl, hr'.at (i := 7) rfl, own_set (j := 0) (u := .int .i64 0) (own_set (j := 0) (u := .slice vA out.length vc) o4 (g := w.heap.size) (by omega)) (g := w.heap.size + 1) (by omega)⟩
                · have hzb : (r2 == 0) = false := by rw [beq_eq_false_iff_ne]; exact hz
                  have HZ := Lib.hid hz
                  clear hz
                  gi_wp2
                  try (refine ⟨trivial, ?_⟩; gi_wp2)
                  exact ⟨ko4.from _, fun _ => h4.at (i := 0) rfl, (.slice vA out.length vc), false, ⟨(x[1].toNat : Int), r2, false, hd + 1, out⟩, ⟨h4, o4⟩, HI.out.next HST.out (by simp [endD, HZ.out]), by dsimp only; omega, by dsimp only; simp; omega, by dsimp only; omega, by dsimp only; omega, by dsimp only; simp; omega⟩
          · have K0 : Hid (stepD ⟨p, 0, mo, hd, out⟩ (byt ⟨x, hx⟩) = .inl (10, [])) := Lib.hid (step_bad3 (by dsimp only; omega) (by rw [B0.out]; exact ka) (by rw [B0.out]; omega) (by rw [B0.out]; omega))
            have k144 : ((x[0].toNat : Int) != 144) = true := by rw [bne_iff_ne]; omega
            have k145 : ((x[0].toNat : Int) != 145) = true := by rw [bne_iff_ne]; omega
            have hr' := (HM.out.rows.set 8 rfl 0 dZ).set 7 rfl 0 (.int .i64 10)
            by_cases k0 : (x[0].toNat : Int) = 0
            · have hdb : (hd == 0) = false := by rw [beq_eq_false_iff_ne]; omega
              clear ka kb k144 k145
              gi_wp2
              exact ⟨((KeepsOthers.setCell _ _ _).trans (KeepsOthers.setCell _ _ _)).from _, rfl, hr'.bel, (10, []), dZ, HI.out.ans K0.out, hr'.at (i := 8) rfl, hr'.at (i := 7) rfl, World.ownsRow_nil _ _ _ _⟩
            · have k0b : ((x[0].toNat : Int) == 0) = false := by rw [beq_eq_false_iff_ne]; exact k0
              clear ka kb k0
              gi_wp2
              exact ⟨((KeepsOthers.setCell _ _ _).trans (KeepsOthers.setCell _ _ _)).from _, rfl, hr'.bel, (10, []), dZ, HI.out.ans K0.out, hr'.at (i := 8) rfl, hr'.at (i := 7) rfl, World.ownsRow_nil _ _ _ _⟩
  case done =>
    rintro D ys W hD rfl ⟨v, fi, st, hm, hI, hd0, hd1, hl0, hl1, hol⟩ hK
    have hA := Lib.hid (hI.done HS.out)
    have q0 := (hm.rows.at (i := 8) rfl).cell
    have f0 := (hm.rows.at (i := 8) rfl).frozen
    have q1 := (hm.rows.at (i := 7) rfl).cell
    have f1 := (hm.rows.at (i := 7) rfl).frozen
    have hr0 := (hm.rows.set 8 rfl 0 dZ).set 7 rfl 0 (.int .i64 10)
    have ho0 := own_set (j := 0) (u := .int .i64 10) (own_set (j := 0) (u := dZ) hm.own (g := w.heap.size) (by omega)) (g := w.heap.size + 1) (by omega)
    have hK1 := ((KeepsOthers.setCell W ⟨w.heap.size, 0, none⟩ dZ).trans (KeepsOthers.setCell _ ⟨w.heap.size + 1, 0, none⟩ (.int .i64 10))).same D _ hK rfl
    gi_wp2
    obtain ⟨e1, e2, e3⟩ := dec_end hA.out hr0.bel (hr0.at (i := 8) rfl) (hr0.at (i := 7) rfl) (World.ownsRow_nil _ _ _ _) hK1 (by omega)
    have c1 := e1.cell 0
    have c2 := e2.cell 0
    refine ⟨by simp, .inl ⟨_, _, rfl, run_takeDeferred hK1, ?_⟩⟩
    refine ⟨.tuple #[dZ, .int .i64 10], ?_, e3⟩
    simp [results, Try.f13, go_sem, c1, c2]
  case stop =>
    rintro D c pre W hD hpre ⟨rfl, hb, r, v, ha, h1, h2, h3⟩ hK
    have HA := Lib.hid (ha s HS.out hpre)
    gi_wp2
    obtain ⟨e1, e2, e3⟩ := dec_end HA.out hb h1 h2 h3 hK (by omega)
    have c1 := e1.cell 0
    have c2 := e2.cell 0
    refine ⟨by simp, .inl ⟨_, _, rfl, run_takeDeferred hK, ?_⟩⟩
    refine ⟨.tuple #[v, .int .i64 r.1], ?_, e3⟩
    simp [results, Try.f13, go_sem, c1, c2]
end Go.Proofs.Ytjlppndlgdgekaa
