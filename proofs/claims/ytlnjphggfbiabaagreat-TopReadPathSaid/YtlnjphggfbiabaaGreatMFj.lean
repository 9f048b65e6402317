/-
  productcode.pass.
-/
import Derived.Test.YtlnjphggfbiabaaGreatMFi
namespace Go.Proofs.YtlnjphggfbiabaaGreat
open Go.RowKit Go.Maps Go.Shelf
set_option linter.unusedVariables false
attribute [local go_sem] Oper.semAt_some

structure BothBy (w w' : World) (g b : Nat) : Prop where
  os : w'.os = w.os
  tape : w'.tape = w.tape
  output : w'.output = w.output
  size : w.heap.size ≤ w'.heap.size
  block : ∀ k, k < w.heap.size → k ≠ g → k ≠ b → w'.heap[k]? = w.heap[k]?
theorem BothBy.refl (w : World) (g b : Nat) : BothBy w w g b := ⟨rfl, rfl, rfl, Nat.le_refl _, fun _ _ _ _ => rfl⟩
theorem BothBy.below {w W W' : World} {g b : Nat} (h : BothBy w W g b) (hb : Below W.heap.size W W') : BothBy w W' g b :=
  ⟨hb.os.trans h.os, hb.tape.trans h.tape, hb.output.trans h.output, Nat.le_trans h.size hb.size, fun k hk h1 h2 => (hb.block k (Nat.lt_of_lt_of_le hk h.size)).trans (h.block k hk h1 h2)⟩
theorem BothBy.grown {w W W' : World} {g b : Nat} {row : Option Nat} (h : BothBy w W g b) (hg : W.grownBy W' row) (hr : ∀ r, row = some r → r = g ∨ r = b ∨ w.heap.size ≤ r) : BothBy w W' g b :=
  ⟨hg.os.trans h.os, hg.tape.trans h.tape, hg.output.trans h.output, Nat.le_trans h.size hg.size, fun k hk h1 h2 => (hg.block k (Nat.lt_of_lt_of_le hk h.size) (fun e => by
    rcases hr k e.symm with h3 | h3 | h3
    · exact h1 h3
    · exact h2 h3
    · omega)).trans (h.block k hk h1 h2)⟩
theorem grownBy_cell (W : World) (g j : Nat) (v : Value) : W.grownBy (W.setCell ⟨g, j, none⟩ v) (some g) := grownBy_set (grownBy_refl W _) j v
theorem BothBy.down {w0 w W : World} {g b B : Nat} (h : BothBy w W g b) (hw : Below B w0 w) (hB : B ≤ w.heap.size) (hg : B ≤ g) (hb : B ≤ b) : Below B w0 W :=
  hw.trans ⟨h.os, h.tape, h.output, h.size, fun k hk => h.block k (by omega) (by omega) (by omega)⟩
section
variable {F : Fence} {n : Nat} {P : Program} {α β : Type}
theorem range_ownJ {g : Operand} {ps : Array Tmp} {assign body : Code} {Q : Exit → Act → World → Prop} {a : Act} {w : World}
    (hro : F.round = none) (h1 : 1 ≤ n) {gf : Nat} {lb : Array Value} (hg : a.eval g = .func (.func gf) #[] lb) (hFg : F.fn gf) (eg : ∀ args w, (callFunc gf args).run P w = .ok (.enter gf args) w)
    {encs : α → Array Value} (hps : ∀ x, (encs x).size = ps.size) {I : β → List α → World → Prop} {Px : List α → α → World → Prop} {σ0 : β} {S : β → List α → Prop}
    (hseq : SeqOwnM F (n - 1) P gf lb encs I Px σ0 S) (hI : ∀ σ, OwnFrom w.heap.size (I σ)) (hP : ∀ pre, OwnFrom w.heap.size (Px pre)) (h0 : I σ0 [] w) 
    {J : β → List α → α → Act → World → Prop} (hJ : ∀ σ pre x a₁, OwnFrom w.heap.size (fun (_ : Unit) => J σ pre x a₁))
    (hassign : ∀ (l : Nat) (σ : β) (pre : List α) (x : α) (W : World) (K : Act → World → Prop), I σ pre W → Px pre x W → (∀ a₁ W1, J σ pre x a₁ W1 → KeepsNM W W1 → K a₁ W1) →
      assign.wpIn (F.inRound l) (n - 1 - 1) P (Exit.then K (fun _ _ _ => False)) { tmps := (ps.zip (encs x)).foldl (fun t (p, v) => t.setIfInBounds p v) a.tmps, defers := [] } W)
    (hbody : ∀ (l : Nat) (σ : β) (pre : List α) (x : α) (a₁ : Act) (W : World), J σ pre x a₁ W → body.wpIn (F.inRound l) (n - 1 - 1) P (goesOn fun W' => KeepsNM W W' ∧ I σ (pre ++ [x]) W') a₁ W)
    (hdone : ∀ (D : Nat) (σ : β) (xs : List α) (W : World), w.heap.size ≤ D → S σ xs → I σ xs W → W.heap[D]? = some (.deferred (some [])) → Q .normal { a with defers := { target := .collected D, args := #[] } :: a.defers } W) :
    (Code.rangeFunc g ps assign body).wpIn F n P Q a w := by
  refine wpIn_rangeFunc fun fn hfn => ?_
  rw [hro]
  let D := w.heap.size
  let rec0 : LoopState → Loop := fun st => { state := st, pending := none, fn, tmps := a.tmps, params := ps, assign, body, defers := D }
  let W0 := (w.alloc (.deferred (some []))).alloc (.loop (rec0 .ready))
  have hD : D = w.heap.size := rfl
  have hL : W0.heap[D + 1]? = some (.loop (rec0 .ready)) := by
    have := World.alloc_heap_new (w.alloc (.deferred (some []))) (.loop (rec0 .ready))
    rwa [World.size_alloc] at this
  have hK : W0.heap[D]? = some (.deferred (some [])) := (Below.heap_alloc _ _ _ (by simp [D])).trans (World.alloc_heap_new w _)
  have hI0 : I σ0 [] W0 := (hI σ0).alloc _ ((hI σ0).alloc _ h0)
  -- what the rounds keep of the loop's two blocks
  let X : World → Prop := fun W => W.heap[D + 1]? = some (.loop (rec0 .ready)) ∧ W.heap[D]? = some (.deferred (some []))
  have hX : ∀ A B, X A → KeepsNM A B → X B := fun A B h k => ⟨k.same _ _ h.1 rfl (fun _ _ e => by cases e), k.same _ _ h.2 rfl (fun _ _ e => by cases e)⟩
  refine ⟨D + 1, [{ target := .collected D, args := #[] }], W0, { target := .fn (.func gf) lb, args := #[.func (.yield (D + 1)) #[] #[]] }, W0, gf, #[.func (.yield (D + 1)) #[] #[]] ++ lb, W0, run_enterLoop_outer _ _ _ _ _, ?_, ?_, ?_, fun _ => h1, ?_⟩
  · simp only [resolve, hg]
    simp [go_sem]
  · intro f' hf'
    simp [Target.leads] at hf'
    subst hf'
    exact hFg
  · simp [invoke, go_sem, eg]
  · refine (hseq (D + 1) X W0 hX ?_ hI0 ⟨hL, hK⟩).mono ?_
    · rintro σ pre x W hi hx ⟨hl, hk⟩
      refine ⟨fn, _, assign, body, run_yield (P := P) (args := encs x) hl (hps x), roundIn_of_wpIn hfn (hassign _ σ pre x W _ hi hx (fun a₁ W1 hj1 hk1 => ?_))⟩
      have hl1 := hk1.same _ _ hl rfl (fun _ _ e => by cases e)
      have hd1 := hk1.same _ _ hk rfl (fun _ _ e => by cases e)
      refine ⟨_, run_beginRound hl1 rfl, ?_⟩
      have hlt : D + 1 < W1.heap.size := (Array.getElem?_eq_some_iff.1 hl1).1
      have hl2 : (W1.putObj (D + 1) (.loop { rec0 .ready with state := .busy })).heap[D + 1]? = some (.loop { rec0 .ready with state := .busy }) := World.putObj_heap_same hlt
      have hk2 : (W1.putObj (D + 1) (.loop { rec0 .ready with state := .busy })).heap[D]? = some (.deferred (some [])) := (World.putObj_heap_other (by omega)).trans hd1
      refine wpIn_mono (hbody _ σ pre x a₁ _ ((hJ σ pre x a₁).putObj (s := ()) _ hj1 (by omega) hl1 rfl)) ?_
      rintro e a3 W3 hp
      cases e with
      | ret => exact hp.elim
      | exit id => exact hp.elim
      | goto t => exact hp.elim
      | panic ch => exact hp.elim
      | outgrown => exact hp.elim
      | normal => ?_
      obtain ⟨hk3, hi3⟩ := hp
      have hl3 := hk3.same _ _ hl2 rfl (fun _ _ e => by cases e)
      have hd3 := hk3.same _ _ hk2 rfl (fun _ _ e => by cases e)
      exact ⟨_, _, run_endRound (P := P) none hl3, rfl, (hI σ).putObj _ hi3 (by omega) hl3 rfl, World.putObj_heap_same (Array.getElem?_eq_some_iff.1 hl3).1, (World.putObj_heap_other (by omega)).trans hd3⟩
    · rintro e W2 ⟨⟨v, rfl⟩, σ, xs, hS, hi, hl, hk⟩
      exact ⟨none, _, run_endLoop (P := P) hl (by intro h; cases h), hdone _ σ xs _ (Nat.le_refl _) hS ((hI σ).putObj _ hi (by omega) hl rfl) ((World.putObj_heap_other (by omega)).trans hk)⟩
end
structure PaI (w : World) (g cap b n : Nat) (l0 C : List Nat) (pre : List Wd) (ch : Bool) (D : List Nat) (W : World) : Prop where
  both : BothBy w W g b
  r3 : RowAt W w.heap.size 75 #[.slice (some ⟨g, 0, none⟩) 2352 cap]
  r4 : RowAt W (w.heap.size + 1) 3 #[.int .i64 12]
  r5 : RowAt W (w.heap.size + 1 + 1) 79 #[.map (some b)]
  r8 : RowAt W (w.heap.size + 1 + 1 + 1) 4 #[.bool ch]
  by_ : BytesAt W g 5 (ofL D)
  off : OffL D C (peelK l0 pre.length)
  set : SetAt W b n (peelK l0 pre.length)
  chg : ch = true → (peelK l0 pre.length).length < l0.length
section
variable {w W W' : World} {g cap b n : Nat} {l0 C D : List Nat} {pre : List Wd} {ch : Bool}
theorem PaI.below (h : PaI w g cap b n l0 C pre ch D W) (hb : Below W.heap.size W W') : PaI w g cap b n l0 C pre ch D W' :=
  ⟨h.both.below hb, h.r3.below hb h.r3.lt, h.r4.below hb h.r4.lt, h.r5.below hb h.r5.lt, h.r8.below hb h.r8.lt, h.by_.below hb h.by_.lt, h.off, h.set.below hb h.set.lt, h.chg⟩
theorem PaI.own {B : Nat} {row : Option Nat} (h : PaI w g cap b n l0 C pre ch D W) (hg : W.grownBy W' row) (hr : ∀ r, row = some r → B ≤ r ∧ ∃ o : Obj, W.heap[r]? = some o ∧ o.isCells = false) (hB : w.heap.size ≤ B) (hb : b < B) : PaI w g cap b n l0 C pre ch D W' :=
  ⟨h.both.grown hg (fun r e => .inr (.inr (Nat.le_trans hB (hr r e).1))), rowAt_own h.r3 hg hr, rowAt_own h.r4 hg hr, rowAt_own h.r5 hg hr, rowAt_own h.r8 hg hr, bytes_own h.by_ hg hr, h.off, h.set.own hg hr hb, h.chg⟩
end
/-- Behind the assignment: the word has a box of its own. -/
structure PaJ (w : World) (g cap b n : Nat) (l0 C : List Nat) (pre : List Wd) (x : Wd) (g10 : Nat) (W : World) : Prop where
  ex : ∃ ch D, PaI w g cap b n l0 C pre ch D W
  r10 : RowAt W g10 29 #[.slice x.A x.l.length x.c]
  lo : w.heap.size + 1 + 1 + 1 < g10
  wo : W.ownsRow 0 3 1 (.slice x.A x.l.length x.c) x.l.length (posV x.l)
  wl : wordsL[pre.length]? = some x.l
set_option maxRecDepth 100000 in
set_option maxHeartbeats 8000000 in
theorem pass_any (g cap b n : Nat) (l0 C D0 : List Nat) (w : World) (hc : SecOk C) (hd : OffL D0 C l0) (hby : BytesAt w g 5 (ofL D0)) (hs : SetAt w b n l0) :
    Calls Tryz.prog 46 #[.slice (some ⟨g, 0, none⟩) 2352 cap, .int .i64 12, .map (some b)] w fun e w' => BothBy w w' g b ∧ ∃ ch D, e = .returned (.tuple #[.bool ch, .bool (decide ((peelP l0).length < l0.length))]) ∧ BytesAt w' g 5 (ofL D) ∧ OffL D C (peelP l0) ∧ SetAt w' b n (peelP l0) ∧ (ch = true → (peelP l0).length < l0.length) := by
  have HC := Lib.hid hc
  have HBY := Lib.hid hby
  have HSS := Lib.hid hs
  have HOD := Lib.hid hd
  have hln : (Builtin.len_ #[79] 3 #[.map (some b)]).run Tryz.prog (((w.alloc (.cells #[.slice (some ⟨g, 0, none⟩) 2352 cap] 75)).alloc (.cells #[.int .i64 12] 3)).alloc (.cells #[.map (some b)] 79)) = .ok (.int .i64 (l0.length : Int)) (((w.alloc (.cells #[.slice (some ⟨g, 0, none⟩) 2352 cap] 75)).alloc (.cells #[.int .i64 12] 3)).alloc (.cells #[.map (some b)] 79)) :=
    SetAt.len (n := n) (((hs.kept (World.grownBy_alloc _ _ none) (by simp)).kept (World.grownBy_alloc _ _ none) (by simp)).kept (World.grownBy_alloc _ _ none) (by simp)) _
  clear hc hd hby hs
  refine (callsIn_wide (n := 5)).1 ?_
  refine callsIn_of_wp_marks Tryz.func46 rfl trivial ?_ rfl
  simp only [Tryz.ntmps46, List.size_toArray, List.length_cons, List.length_nil, Nat.reduceAdd, Nat.reduceSub, Array.replicate_succ, Array.replicate_zero, List.push_toArray, List.append_toArray, List.nil_append, List.cons_append]
  refine wpIn_wide.2 ?_
  go_wp2_with fail
  refine (words_any _).mono ?_
  rintro e w2 ⟨rfl, hw2⟩
  have H0 : Hid (PaI w g cap b n l0 C [] false D0 w2 ∧ w.heap.size + 1 + 1 + 1 < w2.heap.size) := Lib.hid (by
    rw [hw2]
    have h1 := ((((St.start w).alloc #[.slice (some ⟨g, 0, none⟩) 2352 cap] 75).new (g := w.heap.size + 1) (by simp) #[.int .i64 12] 3).new (g := w.heap.size + 1 + 1) (by simp) #[.map (some b)] 79).new (g := w.heap.size + 1 + 1 + 1) (by simp) #[.bool false] 4
    exact ⟨⟨(BothBy.refl w g b).below h1.bel, h1.at (i := 3) rfl, h1.at (i := 2) rfl, h1.at (i := 1) rfl, h1.at (i := 0) rfl, HBY.out.below h1.bel HBY.out.lt, HOD.out, HSS.out.below h1.bel HSS.out.lt, fun e => by cases e⟩, h1.lt (i := 0) rfl⟩)
  clear hw2 hln
  go_wp2_with fail
  refine (wpIn_wide (n := 5)).1 ?_
  refine range_ownJ rfl (by omega) (gf := 82) (lb := #[]) rfl trivial (enters_of Tryz.func82 (by kernel_rfl) rfl)
    (encs := Wd.enc) (fun _ => rfl) (I := fun _ pre W => (∃ ch D, PaI w g cap b n l0 C pre ch D W) ∧ w.heap.size + 1 + 1 + 1 < W.heap.size) (Px := WdP) (words1_seq _ (fun pre A B h hb => ⟨let ⟨ch, D, h⟩ := h.1; ⟨ch, D, h.below hb⟩, Nat.lt_of_lt_of_le h.2 hb.size⟩)).m
    (fun σ => by
      rintro pre W W' row ⟨⟨ch, D, h⟩, h2⟩ hg hr
      exact ⟨⟨ch, D, h.own hg hr H0.out.1.both.size (Nat.lt_of_lt_of_le HSS.out.lt H0.out.1.both.size)⟩, Nat.lt_of_lt_of_le h2 hg.size⟩)
    (fun pre => WdP.own pre) ⟨⟨false, D0, H0.out.1⟩, H0.out.2⟩
    (J := fun _ pre x a₁ W => ∃ g10, a₁ = { tmps := #[.slice (some ⟨g, 0, none⟩) 2352 cap, .int .i64 12, .map (some b), .pointer (some ⟨w.heap.size, 0, none⟩), .pointer (some ⟨w.heap.size + 1, 0, none⟩), .pointer (some ⟨w.heap.size + 1 + 1, 0, none⟩), .bool false, .bool false, .pointer (some ⟨w.heap.size + 1 + 1 + 1, 0, none⟩), .int .i64 (l0.length : Int), .pointer (some ⟨g10, 0, none⟩), undef, undef, undef, undef, .map (some b), .int .i64 (l0.length : Int), .func (.func 82) #[] #[], .slice x.A x.l.length x.c, undef, undef, undef, undef, undef, undef, undef, undef, undef, undef, undef, undef, undef, undef, undef, undef, undef, undef, undef, undef, undef, undef, undef, undef, undef, undef, undef, undef, undef, undef, undef, undef, undef, undef, undef, undef, undef, undef], defers := [] } ∧ PaJ w g cap b n l0 C pre x g10 W)
    (fun σ pre x a₁ => by
      rintro _ W W' row ⟨g10, ha, ⟨ch, D, h⟩, h2, h3, h4, h5⟩ hg hr
      exact ⟨g10, ha, ⟨ch, D, h.own hg hr H0.out.1.both.size (Nat.lt_of_lt_of_le HSS.out.lt H0.out.1.both.size)⟩, rowAt_own h2 hg hr, h3, ownsRow_own h4 hg hr, h5⟩)
    ?assign ?body ?done
  case assign =>
    rintro l σ pre ⟨xA, xc, xl⟩ W K ⟨⟨ch, D, hI⟩, hlo⟩ ⟨hwo, hpm, hwl⟩ hK
    dsimp only [Wd.enc] at hK hwo hwl ⊢
    have hK2 := hK _ (W.alloc (.cells #[.slice xA xl.length xc] 29)) ⟨W.heap.size, rfl, ⟨ch, D, hI.below ((Below.refl _ _).alloc (Nat.le_refl _) _)⟩, RowAt.new _ _ _, hlo, hwo.alloc _, hwl⟩ (KeepsNM.of (KeepsOthers.alloc _ _))
    have HK2 := Lib.hid hK2
    clear hK hK2 hI hwo hpm hwl
    gi_wp2
    exact HK2.out
  case body =>
    rintro l σ pre ⟨xA, xc, xl⟩ _ W ⟨g10, rfl, ⟨⟨ch, D, hI⟩, h10, hlo, hwo, hwl⟩⟩
    dsimp only at h10 hwo hwl ⊢
    have hmem := List.mem_of_getElem? hwl
    obtain ⟨hwn, hwi⟩ := wordsL_in hmem
    have HMEM := Lib.hid hmem
    have HWI := Lib.hid hwi
    have HPK := Lib.hid (peelK_succ (l := l0) hwl)
    have HSB := Lib.hid (peelK_sub l0 pre.length)
    have HLN : Hid ((pre ++ [(⟨xA, xc, xl⟩ : Wd)]).length = pre.length + 1) := Lib.hid (by rw [List.length_append]; rfl)
    have HI := Lib.hid hI
    have HOFF := Lib.hid hI.off
    have HSET := Lib.hid hI.set
    have HCHG := Lib.hid hI.chg
    obtain ⟨L, hL⟩ : ∃ L, peelK l0 pre.length = L := ⟨_, rfl⟩
    have HLK := Lib.hid hL
    rw [hL] at HPK HSB HOFF HSET HCHG
    have hD8 := HOFF.out.2.1
    have hDl := HOFF.out.1
    have HO := Lib.hid hwo
    have H10 := Lib.hid h10
    have CT := Lib.hid (fun (w' : World) (hb : Below W.heap.size W w') => take_any D xl (some ⟨g, 0, none⟩) xA cap xc w' (by
        have h9 := bytes_slat (s := natS D) (w := w') (g := g) (e := 5) (by
          have h11 := HI.out.by_.below hb HI.out.by_.lt
          rw [← sN_natS hD8, ofL_sN] at h11
          exact h11)
        rw [sN_natS hD8] at h9
        exact h9) (SlAt.of_own' (own_all HO.out hb) (Nat.le_refl _)) hD8 (by rw [hDl]; exact HWI.out) (by omega) (by rw [hDl]; omega))
    rw [hDl] at CT
    have CPO := Lib.hid (fun (w' : World) (hb : Below W.heap.size W w') => positions_any xl L xA xc b n w' (SlAt.of_own' (own_all HO.out hb) (Nat.le_refl _)) (HSET.out.below hb HSET.out.lt) (by omega) (fun a ha => by have := HWI.out a ha; omega))
    obtain ⟨nw, hnw⟩ : ∃ nw, xl.length = nw := ⟨_, rfl⟩
    have HN := Lib.hid hnw
    have HPI := Lib.hid (posN_inc xl L xl.length)
    have HPL := Lib.hid (fun a (ha : a ∈ posN xl L xl.length) => (posN_mem.1 ha).1)
    have HPN := Lib.hid (posN_len xl L xl.length)
    have CDM := Lib.hid (fun (w' : World) (A4 : Option Addr) (c4 : Nat) (h4 : SlAt w' w'.heap.size A4 (posV (posN xl L xl.length))) => decode_any (natS (takeN D xl)) 2 A4 c4 (posN xl L xl.length) w' h4 { le := by rw [natS_size, takeN_length]; omega, p1 := by decide, p2 := by decide, ps := by rw [natS_size, takeN_length]; omega, lt := fun a ha => by rw [natS_size, takeN_length]; exact HPL.out a ha, inc := HPI.out, few := by have := HPN.out; omega })
    have hn45 : nw ≤ 45 := by omega
    rw [hnw] at CT CPO CDM hwo h10 hwn ⊢
    have HHI := Lib.hid hI.r3
    have HHJ := Lib.hid hI.r4
    have HHK := Lib.hid hI.r5
    rw [hnw] at HPI HPL HPN HO H10
    clear hL hnw hwi hmem hD8 hDl hwo h10 hwl hI
    have hnps : (posN xl L xl.length).length = (posN xl L nw).length := by rw [HN.out]
    obtain ⟨cs, cnt, E, HCD, HE⟩ : ∃ (cs : ByteArray) (cnt : Nat) (E : Nat), Hid (∀ (w' : World) (A4 : Option Addr) (c4 : Nat), SlAt w' w'.heap.size A4 (posV (posN xl L nw)) → Calls Tryz.prog 34 #[.string (natS (takeN D xl)), .int .i64 2, .slice A4 (posN xl L nw).length c4] w' fun e w'' => e = .returned (.tuple #[.string cs, .int .i64 (cnt : Int), .int .i64 (E : Int)]) ∧ Below w'.heap.size w' w'') ∧
        Hid ((E = 0 ∧ (posN xl L nw).length ≤ 2 ∧ cs = natS (takeN C xl)) ∨ (E = 11 ∧ ¬ (posN xl L nw).length ≤ 2)) := by
      by_cases h2 : (posN xl L nw).length ≤ 2
      · have hera := word_era HC.out HOFF.out HMEM.out (by rw [hnps]; exact h2)
        rw [HN.out] at hera
        obtain ⟨hdeg, nn, hdec⟩ := dec_fix hera
        refine ⟨natS (takeN C xl), nn, 0, Lib.hid (fun w' A4 c4 h4 => ?_), Lib.hid (.inl ⟨rfl, h2, rfl⟩)⟩
        have := CDM.out w' A4 c4 h4 (fun _ _ => hdeg)
        rw [hdec] at this
        exact this
      · refine ⟨⟨#[]⟩, 0, 11, Lib.hid (fun w' A4 c4 h4 => ?_), Lib.hid (.inr ⟨rfl, h2⟩)⟩
        have := CDM.out w' A4 c4 h4 (fun hle => absurd hle h2)
        have e9 : decN (natS (takeN D xl)) 2 (posN xl L nw) = (⟨#[]⟩, 0, 11) := by
          unfold decN
          rw [if_pos (by omega)]
        rw [e9] at this
        exact this
    clear CDM hnps
    generalize hPS : posN xl L nw = PS at *
    have HPS := Lib.hid hPS
    obtain ⟨np, hnp⟩ : ∃ np, PS.length = np := ⟨_, rfl⟩
    have HNP := Lib.hid hnp
    rw [hnp] at HE CPO HCD
    clear hPS hnp
    gi_upto_region 4 with fail
    rename_i Kr hKr
    have HREST : Hid (∀ (gx : Nat) (A4 : Option Addr) (c4 : Nat) (W5 : World), Below W.heap.size W W5 → RowAt W5 gx 9 #[.string cs] → W.heap.size ≤ gx → Kr { tmps := #[.slice (some ⟨g, 0, none⟩) 2352 cap, .int .i64 12, .map (some b), .pointer (some ⟨w.heap.size, 0, none⟩), .pointer (some ⟨w.heap.size + 1, 0, none⟩), .pointer (some ⟨w.heap.size + 1 + 1, 0, none⟩), .bool false, .bool false, .pointer (some ⟨w.heap.size + 1 + 1 + 1, 0, none⟩), .int .i64 (l0.length : Int), .pointer (some ⟨g10, 0, none⟩), .pointer (some ⟨gx, 0, none⟩), .int .i64 (cnt : Int), .int .i64 (E : Int), undef, .map (some b), .int .i64 (l0.length : Int), .func (.func 82) #[] #[], .slice xA nw xc, .tuple #[.string cs, .int .i64 (cnt : Int), .int .i64 (E : Int)], .slice (some ⟨g, 0, none⟩) 2352 cap, .slice xA nw xc, .int .i64 12, .string (natS (takeN D xl)), .slice xA nw xc, .map (some b), .slice A4 np c4, .tuple #[.string cs, .int .i64 (cnt : Int), .int .i64 (E : Int)], .string cs, .int .i64 (cnt : Int), .int .i64 (E : Int), undef, undef, undef, undef, undef, undef, undef, undef, undef, undef, undef, undef, undef, undef, undef, undef, undef, undef, undef, undef, undef, undef, undef, undef, undef, undef], defers := [] } W5) := Lib.hid (by
      intro gx A4 c4 W5 hb5 hrx hgx
      refine hKr _ _ ?_
      dsimp only
      clear hKr
      have HB5 := Lib.hid hb5
      have HRX := Lib.hid hrx
      rcases HE.out with ⟨hE0, hnp2, hcs⟩ | ⟨hE0, hnp2⟩
      · subst hE0
        have HCS := Lib.hid hcs
        have HNP2 : Hid ((posN xl L xl.length).length ≤ 2) := Lib.hid (by rw [HN.out, HPS.out, HNP.out]; exact hnp2)
        have q10 := (H10.out.below hb5 H10.out.lt).cell
        have CA := Lib.hid (all_any g10 (w.heap.size + 1) gx nw xc xA xl W5 (H10.out.below hb5 H10.out.lt) (HHJ.out.below hb5 HHJ.out.lt) (SlAt.of_own' (own_all HO.out hb5) (Nat.le_refl _)) HN.out (by omega) (fun a ha => (HWI.out a ha).1))
        clear hb5 hrx hcs hnp2 HE
        gi_upto_region 6 with fail
        refine wpIn_list_of (by kernel_rfl) (by rintro ⟨a, w, h⟩; exact h) ?_
        go_wp2_with fail
        refine CA.out.mono ?_
        rintro e w6 ⟨rfl, hb6⟩
        have HB6 := Lib.hid (HB5.out.trans (hb6.mono HB5.out.size))
        have HRX6 := Lib.hid (HRX.out.below hb6 HRX.out.lt)
        clear hb6 CA q10
        go_wp2_with fail
        gi_upto_region 7 with fail
        refine wpIn_list_of (by kernel_rfl) (by rintro ⟨a, w, h⟩; exact h) ?_
        have q3 := (HHI.out.below HB6.out HHI.out.lt).cell
        have q4 := (HHJ.out.below HB6.out HHJ.out.lt).cell
        have q10 := (H10.out.below HB6.out H10.out.lt).cell
        have qx := HRX6.out.cell
        have hDl := HOFF.out.1
        have htl : (takeN C xl).length = xl.length := takeN_length _ _
        have CPU := Lib.hid (put_any D xl (takeN C xl) g cap xA xc w6 (HI.out.by_.below HB6.out HI.out.by_.lt) (by rw [HN.out]; exact own_all HO.out HB6.out) HOFF.out.2.1 (takeN_b8 HC.out.b8 xl) htl (by rw [hDl]; exact HWI.out) (by rw [HN.out]; omega) (by rw [hDl]; omega))
        rw [HN.out, hDl, ← HCS.out] at CPU
        have HCH1 := Lib.hid (chg_hit (l := L) HC.out HOFF.out HMEM.out xl.length (Nat.le_refl _))
        rw [HN.out] at HCH1
        clear hDl htl
        go_wp2_with fail
        refine CPU.out.mono ?_
        rintro e w7 ⟨rfl, hg7, hby7⟩
        have HG7 := Lib.hid hg7
        have HBY7 := Lib.hid hby7
        have hne : ∀ k t cs, RowAt w6 k t cs → t ≠ 5 → k ≠ g := fun k t cs hr ht e => by
          obtain ⟨Cs, fr, hC, _⟩ := HI.out.by_.below HB6.out HI.out.by_.lt
          unfold RowAt at hr
          rw [e, hC] at hr
          injection hr with hr
          injection hr with _ h3 _
          exact ht h3.symm
        have hr8 := HI.out.r8.below HB6.out HI.out.r8.lt
        have HR8 := Lib.hid (hr8.grown hg7 (by have := hne _ _ _ hr8 (by decide); simpa using this))
        have hr3 := HHI.out.below HB6.out HHI.out.lt
        have HR3 := Lib.hid (hr3.grown hg7 (by have := hne _ _ _ hr3 (by decide); simpa using this))
        have hr4 := HHJ.out.below HB6.out HHJ.out.lt
        have HR4 := Lib.hid (hr4.grown hg7 (by have := hne _ _ _ hr4 (by decide); simpa using this))
        have hr5 := HHK.out.below HB6.out HHK.out.lt
        have HR5 := Lib.hid (hr5.grown hg7 (by have := hne _ _ _ hr5 (by decide); simpa using this))
        have hr10 := H10.out.below HB6.out H10.out.lt
        have HR10 := Lib.hid (hr10.grown hg7 (by have := hne _ _ _ hr10 (by decide); simpa using this))
        have HS7 := Lib.hid ((HSET.out.below HB6.out HSET.out.lt).kept hg7 (fun e => by
          have h1 := HSET.out.below HB6.out HSET.out.lt
          obtain ⟨Cs, fr, hC, _⟩ := HI.out.by_.below HB6.out HI.out.by_.lt
          obtain ⟨_, ⟨es, clock, hh, _⟩, _⟩ := h1
          injection e with e
          rw [e, hC] at hh
          cases hh))
        have HO7 := Lib.hid ((own_all HO.out HB6.out).kept hg7 (.inr (fun e => by
          obtain ⟨Cs, fr, hC, _⟩ := HI.out.by_.below HB6.out HI.out.by_.lt
          rcases (own_all HO.out HB6.out).2 with ⟨h1, _⟩ | ⟨gg, cc, cur, h1, _, h2, _⟩
          · have := congrArg Value.ownBlock h1
            rw [e] at this
            cases this
          · have h3 := congrArg Value.ownBlock h1
            rw [e] at h3
            simp only [Value.ownBlock] at h3
            injection h3 with h3
            rw [← h3, hC] at h2
            injection h2 with h2
            injection h2 with _ h4 _
            exact absurd h4 (by decide))))
        have HK7 := Lib.hid ((KeepsOthers.of_below HB6.out).trans (keeps_bytes (HI.out.by_.below HB6.out HI.out.by_.lt) hg7))
        have HBB7 := Lib.hid ((HI.out.both.below HB6.out).grown hg7 (fun r e => by cases e; exact .inl rfl))
        have q8 := HR8.out.cell
        have f8 := HR8.out.frozen
        clear hg7 hby7 CPU q3 q4 q10 qx hne hr8 hr3 hr4 hr5 hr10
        generalize hpc : chgK D xl (takeN C xl) nw = pc at *
        have HPW : Hid (peelK l0 (pre.length + 1) = relK xl L xl.length) := Lib.hid (by rw [HPK.out]; exact peelW_two HNP2.out)
        have HW8 : Hid (∀ ch2 : Bool, (ch2 = true → pc = true ∨ ch = true) → ∀ w8 : World, w8 = w7.setCell ⟨w.heap.size + 1 + 1 + 1, 0, none⟩ (.bool ch2) → RowAt w8 g10 29 #[.slice xA nw xc] ∧ RowAt w8 (w.heap.size + 1 + 1) 79 #[.map (some b)] ∧
            Calls Tryz.prog 42 #[.slice xA nw xc, .map (some b)] w8 (fun e w9 => e = .returned (.tuple #[]) ∧ KeepsNM W w9 ∧ (∃ ch D, PaI w g cap b n l0 C (pre ++ [(⟨xA, xc, xl⟩ : Wd)]) ch D w9) ∧ w.heap.size + 1 + 1 + 1 < w9.heap.size)) := Lib.hid (by
          rintro ch2 hch2 w8 rfl
          have hlt8 := HR8.out.lt
          have hne8 : ∀ {k : Nat} {t : TypeId} {cs : Array Value}, RowAt w7 k t cs → t ≠ 4 → k ≠ w.heap.size + 1 + 1 + 1 := fun hr ht e => by
            have h1 := HR8.out
            unfold RowAt at hr h1
            rw [e, h1] at hr
            injection hr with hr
            injection hr with _ h3 _
            exact ht h3.symm
          have f10 := HR10.out.far (p := ⟨w.heap.size + 1 + 1 + 1, 0, none⟩) (hne8 HR10.out (by decide)) (.bool ch2)
          have f5 := HR5.out.far (p := ⟨w.heap.size + 1 + 1 + 1, 0, none⟩) (hne8 HR5.out (by decide)) (.bool ch2)
          have f4 := HR4.out.far (p := ⟨w.heap.size + 1 + 1 + 1, 0, none⟩) (hne8 HR4.out (by decide)) (.bool ch2)
          have f3 := HR3.out.far (p := ⟨w.heap.size + 1 + 1 + 1, 0, none⟩) (hne8 HR3.out (by decide)) (.bool ch2)
          have f8 := HR8.out.set_ 0 (.bool ch2)
          have fs := HS7.out.cell (j := 0) HR8.out (.bool ch2)
          have fo := own_set_ty (j := 0) (u := .bool ch2) HO7.out HR8.out (by decide)
          have gb8 := grownBy_cell w7 (w.heap.size + 1 + 1 + 1) 0 (.bool ch2)
          have hg8 : g ≠ w.heap.size + 1 + 1 + 1 := fun e => by
            obtain ⟨Cs, fr, hC, _⟩ := HBY7.out
            have h1 := HR8.out
            unfold RowAt at h1
            rw [e, h1] at hC
            injection hC with hC
            injection hC with _ h3 _
            exact absurd h3 (by decide)
          have fby := bytes_grown HBY7.out gb8 (fun e => hg8 (Option.some.inj e).symm)
          have fk := (KeepsNM.of HK7.out).trans (KeepsNM.of (KeepsOthers.setCell w7 ⟨w.heap.size + 1 + 1 + 1, 0, none⟩ (.bool ch2)))
          have fb := HBB7.out.grown gb8 (fun r e => by cases e; exact .inr (.inr (by omega)))
          refine ⟨f10, f5, ?_⟩
          have CR := release_any xl L xA xc b n _ (by rw [HN.out]; exact fo) fs (by rw [HN.out]; omega) (fun a ha => by have := HWI.out a ha; omega)
          rw [HN.out] at CR
          refine CR.mono ?_
          rintro e w9 ⟨rfl, hg9, hs9⟩
          have hm := fun {k : Nat} {t : TypeId} {cs : Array Value} (hr : RowAt (w7.setCell ⟨w.heap.size + 1 + 1 + 1, 0, none⟩ (.bool ch2)) k t cs) => hr.grown hg9 (by have := map_ne_row fs hr; simpa using this)
          refine ⟨rfl, fk.trans (KeepsNM.map fs hg9), ⟨ch2, putN D xl (takeN C xl), fb.grown hg9 (fun r e => by cases e; exact .inr (.inl rfl)), hm f3, hm f4, hm f5, hm f8, ?_, ?_, ?_, ?_⟩, ?_⟩
          · refine bytes_grown fby hg9 (fun e => ?_)
            obtain ⟨Cs, fr, hC, _⟩ := fby
            obtain ⟨_, ⟨es, clock, hh, _⟩, _⟩ := fs
            injection e with e
            rw [e, hC] at hh
            cases hh
          · rw [HLN.out, HPW.out]
            exact put_off HC.out HOFF.out HMEM.out
          · rw [HLN.out, HPW.out, HN.out]
            exact hs9
          · intro e
            rw [HLN.out, HPW.out]
            rcases hch2 e with h1 | h1
            · have h2 := relK_lt (wl := xl) (l := L) (by rw [HN.out]; exact HCH1.out h1)
              have h3 := HSB.out.length_le
              omega
            · have h2 := HCHG.out h1
              have h3 : (relK xl L xl.length).length ≤ L.length := List.length_filter_le _ _
              omega
          · have := hm f8
            have := this.lt
            omega)
        clear HG7 HBY7 HR8 HR3 HR4 HR5 HR10 HS7 HO7 HK7 HBB7 HCH1 HPW HCHG hpc
        cases pc with
        | true =>
          go_wp2_with fail
          gi_upto_region 8 with fail
          refine wpIn_list_of (by kernel_rfl) (by rintro ⟨a, w, h⟩; exact h) ?_
          obtain ⟨h1, h2, CR⟩ := HW8.out true (fun _ => .inl (by trivial)) _ rfl
          have q10 := h1.cell
          have q5 := h2.cell
          have HCR := Lib.hid CR
          clear h1 h2 CR
          go_wp2_with fail
          refine HCR.out.mono ?_
          rintro e w9 ⟨rfl, hk9, hp9, hl9⟩
          have HFIN := Lib.hid (And.intro hk9 (And.intro hp9 hl9))
          clear hk9 hp9 hl9 HCR q10 q5
          go_wp2_with fail
          exact HFIN.out
        | false =>
          go_wp2_with fail
          gi_upto_region 8 with fail
          refine wpIn_list_of (by kernel_rfl) (by rintro ⟨a, w, h⟩; exact h) ?_
          obtain ⟨h1, h2, CR⟩ := HW8.out ch (fun h => .inr h) _ rfl
          have q10 := h1.cell
          have q5 := h2.cell
          have HCR := Lib.hid CR
          clear h1 h2 CR
          go_wp2_with fail
          refine HCR.out.mono ?_
          rintro e w9 ⟨rfl, hk9, hp9, hl9⟩
          have HFIN := Lib.hid (And.intro hk9 (And.intro hp9 hl9))
          clear hk9 hp9 hl9 HCR q10 q5
          go_wp2_with fail
          exact HFIN.out
      · subst hE0
        have HFIN : Hid (KeepsNM W W5 ∧ (∃ ch D, PaI w g cap b n l0 C (pre ++ [(⟨xA, xc, xl⟩ : Wd)]) ch D W5) ∧ w.heap.size + 1 + 1 + 1 < W5.heap.size) := Lib.hid (by
          have hp := HI.out.below hb5
          have e9 : peelK l0 (pre.length + 1) = L := by rw [HPK.out]; exact peelW_many (by rw [HN.out, HPS.out, HNP.out]; exact hnp2)
          refine ⟨KeepsNM.of (KeepsOthers.of_below hb5), ⟨ch, D, hp.both, hp.r3, hp.r4, hp.r5, hp.r8, hp.by_, ?_, ?_, ?_⟩, ?_⟩
          · rw [HLN.out, e9]; exact HOFF.out
          · rw [HLN.out, e9, ← HLK.out]; exact hp.set
          · rw [HLN.out, e9]; exact HCHG.out
          · exact hp.r8.lt)
        clear hb5 hrx hnp2 HE
        gi_upto_region 6 with fail
        refine wpIn_list_of (by kernel_rfl) (by rintro ⟨a, w, h⟩; exact h) ?_
        go_wp2_with fail
        gi_wp2
        exact HFIN.out)
    clear hKr
    refine wpIn_held_of (S := fun w' => Below W.heap.size W w') (by kernel_rfl) (by kernel_rfl) (by rintro ⟨a, w, h⟩; exact h) (Below.refl _ _).drew (fun hHeld => ?_)
    refine wpAnyH_take (i := 0) (oi := ?o901) (v := ?v901) ?hi901 (by kernel_rfl) (by kernel_rfl) (by kernel_rfl) ?hq901 ?hy901 (by assumption) ?hr901
    case hi901 => (simp only [List.getElem?_toArray, List.getElem?_cons_zero]; rfl)
    case hy901 => ((refine .inl ⟨by rfl, ?_⟩); intro w hS; have q3 := (HHI.out.below hS HHI.out.lt).cell; go_simp; (try with_reducible rfl))
    case hq901 => exact fun _ _ _ h => h
    (simp only [Act.put, List.setIfInBounds_toArray, List.set_cons_zero, List.set_cons_succ])
    refine wpAnyH_take (i := 1) (oi := ?o902) (v := ?v902) ?hi902 (by kernel_rfl) (by kernel_rfl) (by kernel_rfl) ?hq902 ?hy902 (by assumption) ?hr902
    case hi902 => (simp only [List.getElem?_toArray, List.getElem?_cons_succ, List.getElem?_cons_zero]; rfl)
    case hy902 => ((refine .inl ⟨by rfl, ?_⟩); intro w hS; have q10 := (H10.out.below hS H10.out.lt).cell; go_simp; (try with_reducible rfl))
    case hq902 => exact fun _ _ _ h => h
    (simp only [Act.put, List.setIfInBounds_toArray, List.set_cons_zero, List.set_cons_succ])
    refine wpAnyH_take (i := 2) (oi := ?o903) (v := ?v903) ?hi903 (by kernel_rfl) (by kernel_rfl) (by kernel_rfl) ?hq903 ?hy903 (by assumption) ?hr903
    case hi903 => (simp only [List.getElem?_toArray, List.getElem?_cons_succ, List.getElem?_cons_zero]; rfl)
    case hy903 => ((refine .inl ⟨by rfl, ?_⟩); intro w hS; have q4 := (HHJ.out.below hS HHJ.out.lt).cell; go_simp; (try with_reducible rfl))
    case hq903 => exact fun _ _ _ h => h
    (simp only [Act.put, List.setIfInBounds_toArray, List.set_cons_zero, List.set_cons_succ])
    refine wpAnyH_take (i := 4) (oi := ?o904) (v := ?v904) ?hi904 (by kernel_rfl) (by kernel_rfl) (by kernel_rfl) ?hq904 ?hy904 (by assumption) ?hr904
    case hi904 => (simp only [List.getElem?_toArray, List.getElem?_cons_succ, List.getElem?_cons_zero]; rfl)
    case hy904 => ((refine .inl ⟨by rfl, ?_⟩); intro w hS; have q10 := (H10.out.below hS H10.out.lt).cell; go_simp; (try with_reducible rfl))
    case hq904 => exact fun _ _ _ h => h
    (simp only [Act.put, List.setIfInBounds_toArray, List.set_cons_zero, List.set_cons_succ])
    refine wpAnyH_take (i := 5) (oi := ?o905) (v := ?v905) ?hi905 (by kernel_rfl) (by kernel_rfl) (by kernel_rfl) ?hq905 ?hy905 (by assumption) ?hr905
    case hi905 => (simp only [List.getElem?_toArray, List.getElem?_cons_succ, List.getElem?_cons_zero]; rfl)
    case hy905 => ((refine .inl ⟨by rfl, ?_⟩); intro w hS; have q5 := (HHK.out.below hS HHK.out.lt).cell; go_simp; (try with_reducible rfl))
    case hq905 => exact fun _ _ _ h => h
    (simp only [Act.put, List.setIfInBounds_toArray, List.set_cons_zero, List.set_cons_succ])
    refine wpAnyH_ready (rs := [3, 12]) (by kernel_rfl) (by simp) ?_
    refine AllReadyH.cons rfl (fun K hK => ?_) (AllReadyH.cons rfl (fun K hK => ?_) AllReadyH.nil)
    · skip
      go_simp
      go_wp2_with ((with_reducible refine (CT.out _ hHeld).mono ?_); rintro e w3 ⟨rfl, hb3⟩)
      refine hK.out _ _ (hHeld.trans (hb3.mono hHeld.size)) (fun hHeld1 => ?_)
      clear hK K
      (try simp only [Act.put, List.setIfInBounds_toArray, List.set_cons_zero, List.set_cons_succ])
      clear hb3
      clear hHeld; have hHeld := hHeld1; clear hHeld1
      refine wpAnyH_ready (rs := [6, 12]) (by kernel_rfl) (by simp) ?_
      refine AllReadyH.cons rfl (fun K hK => ?_) (AllReadyH.cons rfl (fun K hK => ?_) AllReadyH.nil)
      · skip
        go_simp
        go_wp2_with ((with_reducible refine (CPO.out _ hHeld).mono ?_); rintro e w4 ⟨hb4, A4, c4, rfl, ho4⟩)
        refine hK.out _ _ (hHeld.trans (hb4.mono hHeld.size)) (fun hHeld1 => ?_)
        clear hK K
        (try simp only [Act.put, List.setIfInBounds_toArray, List.set_cons_zero, List.set_cons_succ])
        have HO4 := Lib.hid ho4
        clear ho4
        clear hb4
        clear hHeld; have hHeld := hHeld1; clear hHeld1
        refine wpAnyH_ready (rs := [7, 12]) (by kernel_rfl) (by simp) ?_
        refine AllReadyH.cons rfl (fun K hK => ?_) (AllReadyH.cons rfl (fun K hK => ?_) AllReadyH.nil)
        · skip
          go_simp
          go_wp2_with ((refine (HCD.out _ A4 c4 (SlAt.of_own' HO4.out (Nat.le_refl _))).mono ?_); rintro e w5 ⟨rfl, hb5⟩)
          refine hK.out _ _ (hHeld.trans (hb5.mono hHeld.size)) (fun hHeld1 => ?_)
          clear hK K
          (try simp only [Act.put, List.setIfInBounds_toArray, List.set_cons_zero, List.set_cons_succ])
          clear hb5
          clear hHeld; have hHeld := hHeld1; clear hHeld1
          refine wpAnyH_take (i := 8) (oi := ?o906) (v := ?v906) ?hi906 (by kernel_rfl) (by kernel_rfl) (by kernel_rfl) ?hq906 ?hy906 (by assumption) ?hr906
          case hi906 => (simp only [List.getElem?_toArray, List.getElem?_cons_succ, List.getElem?_cons_zero]; rfl)
          case hy906 => ((refine .inl ⟨by rfl, ?_⟩); intro w hS; go_simp; (try with_reducible rfl))
          case hq906 => exact fun _ _ _ h => h
          (simp only [Act.put, List.setIfInBounds_toArray, List.set_cons_zero, List.set_cons_succ])
          refine wpAnyH_take (i := 9) (oi := ?o907) (v := ?v907) ?hi907 (by kernel_rfl) (by kernel_rfl) (by kernel_rfl) ?hq907 ?hy907 (by assumption) ?hr907
          case hi907 => (simp only [List.getElem?_toArray, List.getElem?_cons_succ, List.getElem?_cons_zero]; rfl)
          case hy907 => ((refine .inl ⟨by rfl, ?_⟩); intro w hS; go_simp; (try with_reducible rfl))
          case hq907 => exact fun _ _ _ h => h
          (simp only [Act.put, List.setIfInBounds_toArray, List.set_cons_zero, List.set_cons_succ])
          refine wpAnyH_take (i := 10) (oi := ?o908) (v := ?v908) ?hi908 (by kernel_rfl) (by kernel_rfl) (by kernel_rfl) ?hq908 ?hy908 (by assumption) ?hr908
          case hi908 => (simp only [List.getElem?_toArray, List.getElem?_cons_succ, List.getElem?_cons_zero]; rfl)
          case hy908 => ((refine .inl ⟨by rfl, ?_⟩); intro w hS; go_simp; (try with_reducible rfl))
          case hq908 => exact fun _ _ _ h => h
          (simp only [Act.put, List.setIfInBounds_toArray, List.set_cons_zero, List.set_cons_succ])
          refine wpAnyH_take (i := 11) (oi := ?o909) (v := ?v909) ?hi909 (by kernel_rfl) (by kernel_rfl) (by kernel_rfl) ?hq909 ?hy909 (by assumption) ?hr909
          case hi909 => (simp only [List.getElem?_toArray, List.getElem?_cons_succ, List.getElem?_cons_zero]; rfl)
          case hy909 => ((refine .inl ⟨by rfl, ?_⟩); intro w hS; go_simp; (try with_reducible rfl))
          case hq909 => exact fun _ _ _ h => h
          (simp only [Act.put, List.setIfInBounds_toArray, List.set_cons_zero, List.set_cons_succ])
          refine wpAnyH_ready (rs := [12]) (by kernel_rfl) (by simp) ?_
          refine AllReadyH.cons rfl (fun K hK => ?_) AllReadyH.nil
          go_simp
          refine hK.out _ _ (hHeld.alloc hHeld.size _) (fun hHeld1 => ?_)
          clear hK K
          (try simp only [Act.put, List.setIfInBounds_toArray, List.set_cons_zero, List.set_cons_succ])
          have HBX : Hid (RowAt ((w5).alloc (.cells #[.string ⟨#[]⟩] 9)) w5.heap.size 9 #[.string ⟨#[]⟩]) := Lib.hid (RowAt.new (w5) 9 #[.string ⟨#[]⟩])
          have qx := HBX.out.cell
          have fx := HBX.out.frozen
          have HGX : Hid (W.heap.size ≤ w5.heap.size) := Lib.hid (by have h := hHeld.size; first | exact h | exact Nat.le_refl _)
          have HO4 := Lib.hid (HO4.out.alloc (.cells #[.string ⟨#[]⟩] 9))
          have HB5 := Lib.hid hHeld
          clear hHeld; have hHeld := hHeld1; clear hHeld1
          refine wpAnyH_ready (rs := [13]) (by kernel_rfl) (by simp) ?_
          refine AllReadyH.cons rfl (fun K hK => ?_) AllReadyH.nil
          go_simp
          refine hK.out _ _ (HB5.out.alloc HB5.out.size _) (fun hHeld1 => ?_)
          clear hK K
          (try simp only [Act.put, List.setIfInBounds_toArray, List.set_cons_zero, List.set_cons_succ])
          clear hHeld; have hHeld := hHeld1; clear hHeld1
          refine wpAnyH_take (i := 14) (oi := ?o910) (v := ?v910) ?hi910 (by kernel_rfl) (by kernel_rfl) (by kernel_rfl) ?hq910 ?hy910 (by assumption) ?hr910
          case hi910 => (simp only [List.getElem?_toArray, List.getElem?_cons_succ, List.getElem?_cons_zero]; rfl)
          case hy910 => ((refine .inl ⟨by rfl, ?_⟩); intro w hS; go_simp; (try with_reducible rfl))
          case hq910 => exact fun _ _ _ h => h
          (simp only [Act.put, List.setIfInBounds_toArray, List.set_cons_zero, List.set_cons_succ])
          refine wpAnyH_take (i := 15) (oi := ?o911) (v := ?v911) ?hi911 (by kernel_rfl) (by kernel_rfl) (by kernel_rfl) ?hq911 ?hy911 (by assumption) ?hr911
          case hi911 => (simp only [List.getElem?_toArray, List.getElem?_cons_succ, List.getElem?_cons_zero]; rfl)
          case hy911 => ((refine .inl ⟨by rfl, ?_⟩); intro w hS; go_simp; (try with_reducible rfl))
          case hq911 => exact fun _ _ _ h => h
          (simp only [Act.put, List.setIfInBounds_toArray, List.set_cons_zero, List.set_cons_succ])
          refine wpAnyH_done (by kernel_rfl) ?_ _
          exact HREST.out _ A4 c4 _ hHeld (RowAt.new w5 9 #[.string cs]) HGX.out
        · skip
          go_simp
          refine hK.out _ _ (hHeld.alloc hHeld.size _) (fun hHeld1 => ?_)
          clear hK K
          (try simp only [Act.put, List.setIfInBounds_toArray, List.set_cons_zero, List.set_cons_succ])
          have HBX : Hid (RowAt ((w4).alloc (.cells #[.string ⟨#[]⟩] 9)) w4.heap.size 9 #[.string ⟨#[]⟩]) := Lib.hid (RowAt.new (w4) 9 #[.string ⟨#[]⟩])
          have qx := HBX.out.cell
          have fx := HBX.out.frozen
          have HGX : Hid (W.heap.size ≤ w4.heap.size) := Lib.hid (by have h := hHeld.size; first | exact h | exact Nat.le_refl _)
          have HO4 := Lib.hid (HO4.out.alloc (.cells #[.string ⟨#[]⟩] 9))
          clear hHeld; have hHeld := hHeld1; clear hHeld1
          refine wpAnyH_ready (rs := [7]) (by kernel_rfl) (by simp) ?_
          refine AllReadyH.cons rfl (fun K hK => ?_) AllReadyH.nil
          go_simp
          go_wp2_with ((refine (HCD.out _ A4 c4 (SlAt.of_own' HO4.out (Nat.le_refl _))).mono ?_); rintro e w5 ⟨rfl, hb5⟩)
          refine hK.out _ _ (hHeld.trans (hb5.mono hHeld.size)) (fun hHeld1 => ?_)
          clear hK K
          (try simp only [Act.put, List.setIfInBounds_toArray, List.set_cons_zero, List.set_cons_succ])
          have HBX := Lib.hid (HBX.out.below hb5 HBX.out.lt)
          have qx := HBX.out.cell
          have fx := HBX.out.frozen
          clear hb5
          clear hHeld; have hHeld := hHeld1; clear hHeld1
          refine wpAnyH_take (i := 8) (oi := ?o912) (v := ?v912) ?hi912 (by kernel_rfl) (by kernel_rfl) (by kernel_rfl) ?hq912 ?hy912 (by assumption) ?hr912
          case hi912 => (simp only [List.getElem?_toArray, List.getElem?_cons_succ, List.getElem?_cons_zero]; rfl)
          case hy912 => ((refine .inl ⟨by rfl, ?_⟩); intro w hS; go_simp; (try with_reducible rfl))
          case hq912 => exact fun _ _ _ h => h
          (simp only [Act.put, List.setIfInBounds_toArray, List.set_cons_zero, List.set_cons_succ])
          refine wpAnyH_take (i := 9) (oi := ?o913) (v := ?v913) ?hi913 (by kernel_rfl) (by kernel_rfl) (by kernel_rfl) ?hq913 ?hy913 (by assumption) ?hr913
          case hi913 => (simp only [List.getElem?_toArray, List.getElem?_cons_succ, List.getElem?_cons_zero]; rfl)
          case hy913 => ((refine .inl ⟨by rfl, ?_⟩); intro w hS; go_simp; (try with_reducible rfl))
          case hq913 => exact fun _ _ _ h => h
          (simp only [Act.put, List.setIfInBounds_toArray, List.set_cons_zero, List.set_cons_succ])
          refine wpAnyH_take (i := 10) (oi := ?o914) (v := ?v914) ?hi914 (by kernel_rfl) (by kernel_rfl) (by kernel_rfl) ?hq914 ?hy914 (by assumption) ?hr914
          case hi914 => (simp only [List.getElem?_toArray, List.getElem?_cons_succ, List.getElem?_cons_zero]; rfl)
          case hy914 => ((refine .inl ⟨by rfl, ?_⟩); intro w hS; go_simp; (try with_reducible rfl))
          case hq914 => exact fun _ _ _ h => h
          (simp only [Act.put, List.setIfInBounds_toArray, List.set_cons_zero, List.set_cons_succ])
          refine wpAnyH_take (i := 11) (oi := ?o915) (v := ?v915) ?hi915 (by kernel_rfl) (by kernel_rfl) (by kernel_rfl) ?hq915 ?hy915 (by assumption) ?hr915
          case hi915 => (simp only [List.getElem?_toArray, List.getElem?_cons_succ, List.getElem?_cons_zero]; rfl)
          case hy915 => ((refine .inl ⟨by rfl, ?_⟩); intro w hS; go_simp; (try with_reducible rfl))
          case hq915 => exact fun _ _ _ h => h
          (simp only [Act.put, List.setIfInBounds_toArray, List.set_cons_zero, List.set_cons_succ])
          refine wpAnyH_ready (rs := [13]) (by kernel_rfl) (by simp) ?_
          refine AllReadyH.cons rfl (fun K hK => ?_) AllReadyH.nil
          go_simp
          refine hK.out _ _ (hHeld.setCell (p := ⟨_, 0, none⟩) HGX.out _) (fun hHeld1 => ?_)
          clear hK K
          (try simp only [Act.put, List.setIfInBounds_toArray, List.set_cons_zero, List.set_cons_succ])
          clear hHeld; have hHeld := hHeld1; clear hHeld1
          refine wpAnyH_take (i := 14) (oi := ?o916) (v := ?v916) ?hi916 (by kernel_rfl) (by kernel_rfl) (by kernel_rfl) ?hq916 ?hy916 (by assumption) ?hr916
          case hi916 => (simp only [List.getElem?_toArray, List.getElem?_cons_succ, List.getElem?_cons_zero]; rfl)
          case hy916 => ((refine .inl ⟨by rfl, ?_⟩); intro w hS; go_simp; (try with_reducible rfl))
          case hq916 => exact fun _ _ _ h => h
          (simp only [Act.put, List.setIfInBounds_toArray, List.set_cons_zero, List.set_cons_succ])
          refine wpAnyH_take (i := 15) (oi := ?o917) (v := ?v917) ?hi917 (by kernel_rfl) (by kernel_rfl) (by kernel_rfl) ?hq917 ?hy917 (by assumption) ?hr917
          case hi917 => (simp only [List.getElem?_toArray, List.getElem?_cons_succ, List.getElem?_cons_zero]; rfl)
          case hy917 => ((refine .inl ⟨by rfl, ?_⟩); intro w hS; go_simp; (try with_reducible rfl))
          case hq917 => exact fun _ _ _ h => h
          (simp only [Act.put, List.setIfInBounds_toArray, List.set_cons_zero, List.set_cons_succ])
          refine wpAnyH_done (by kernel_rfl) ?_ _
          exact HREST.out _ A4 c4 _ hHeld (HBX.out.set_ 0 (.string cs)) HGX.out
      · skip
        go_simp
        refine hK.out _ _ (hHeld.alloc hHeld.size _) (fun hHeld1 => ?_)
        clear hK K
        (try simp only [Act.put, List.setIfInBounds_toArray, List.set_cons_zero, List.set_cons_succ])
        have HBX : Hid (RowAt ((w3).alloc (.cells #[.string ⟨#[]⟩] 9)) w3.heap.size 9 #[.string ⟨#[]⟩]) := Lib.hid (RowAt.new (w3) 9 #[.string ⟨#[]⟩])
        have qx := HBX.out.cell
        have fx := HBX.out.frozen
        have HGX : Hid (W.heap.size ≤ w3.heap.size) := Lib.hid (by have h := hHeld.size; first | exact h | exact Nat.le_refl _)
        clear hHeld; have hHeld := hHeld1; clear hHeld1
        refine wpAnyH_ready (rs := [6]) (by kernel_rfl) (by simp) ?_
        refine AllReadyH.cons rfl (fun K hK => ?_) AllReadyH.nil
        go_simp
        go_wp2_with ((with_reducible refine (CPO.out _ hHeld).mono ?_); rintro e w4 ⟨hb4, A4, c4, rfl, ho4⟩)
        refine hK.out _ _ (hHeld.trans (hb4.mono hHeld.size)) (fun hHeld1 => ?_)
        clear hK K
        (try simp only [Act.put, List.setIfInBounds_toArray, List.set_cons_zero, List.set_cons_succ])
        have HO4 := Lib.hid ho4
        clear ho4
        have HBX := Lib.hid (HBX.out.below hb4 HBX.out.lt)
        have qx := HBX.out.cell
        have fx := HBX.out.frozen
        clear hb4
        clear hHeld; have hHeld := hHeld1; clear hHeld1
        refine wpAnyH_ready (rs := [7]) (by kernel_rfl) (by simp) ?_
        refine AllReadyH.cons rfl (fun K hK => ?_) AllReadyH.nil
        go_simp
        go_wp2_with ((refine (HCD.out _ A4 c4 (SlAt.of_own' HO4.out (Nat.le_refl _))).mono ?_); rintro e w5 ⟨rfl, hb5⟩)
        refine hK.out _ _ (hHeld.trans (hb5.mono hHeld.size)) (fun hHeld1 => ?_)
        clear hK K
        (try simp only [Act.put, List.setIfInBounds_toArray, List.set_cons_zero, List.set_cons_succ])
        have HBX := Lib.hid (HBX.out.below hb5 HBX.out.lt)
        have qx := HBX.out.cell
        have fx := HBX.out.frozen
        clear hb5
        clear hHeld; have hHeld := hHeld1; clear hHeld1
        refine wpAnyH_take (i := 8) (oi := ?o918) (v := ?v918) ?hi918 (by kernel_rfl) (by kernel_rfl) (by kernel_rfl) ?hq918 ?hy918 (by assumption) ?hr918
        case hi918 => (simp only [List.getElem?_toArray, List.getElem?_cons_succ, List.getElem?_cons_zero]; rfl)
        case hy918 => ((refine .inl ⟨by rfl, ?_⟩); intro w hS; go_simp; (try with_reducible rfl))
        case hq918 => exact fun _ _ _ h => h
        (simp only [Act.put, List.setIfInBounds_toArray, List.set_cons_zero, List.set_cons_succ])
        refine wpAnyH_take (i := 9) (oi := ?o919) (v := ?v919) ?hi919 (by kernel_rfl) (by kernel_rfl) (by kernel_rfl) ?hq919 ?hy919 (by assumption) ?hr919
        case hi919 => (simp only [List.getElem?_toArray, List.getElem?_cons_succ, List.getElem?_cons_zero]; rfl)
        case hy919 => ((refine .inl ⟨by rfl, ?_⟩); intro w hS; go_simp; (try with_reducible rfl))
        case hq919 => exact fun _ _ _ h => h
        (simp only [Act.put, List.setIfInBounds_toArray, List.set_cons_zero, List.set_cons_succ])
        refine wpAnyH_take (i := 10) (oi := ?o920) (v := ?v920) ?hi920 (by kernel_rfl) (by kernel_rfl) (by kernel_rfl) ?hq920 ?hy920 (by assumption) ?hr920
        case hi920 => (simp only [List.getElem?_toArray, List.getElem?_cons_succ, List.getElem?_cons_zero]; rfl)
        case hy920 => ((refine .inl ⟨by rfl, ?_⟩); intro w hS; go_simp; (try with_reducible rfl))
        case hq920 => exact fun _ _ _ h => h
        (simp only [Act.put, List.setIfInBounds_toArray, List.set_cons_zero, List.set_cons_succ])
        refine wpAnyH_take (i := 11) (oi := ?o921) (v := ?v921) ?hi921 (by kernel_rfl) (by kernel_rfl) (by kernel_rfl) ?hq921 ?hy921 (by assumption) ?hr921
        case hi921 => (simp only [List.getElem?_toArray, List.getElem?_cons_succ, List.getElem?_cons_zero]; rfl)
        case hy921 => ((refine .inl ⟨by rfl, ?_⟩); intro w hS; go_simp; (try with_reducible rfl))
        case hq921 => exact fun _ _ _ h => h
        (simp only [Act.put, List.setIfInBounds_toArray, List.set_cons_zero, List.set_cons_succ])
        refine wpAnyH_ready (rs := [13]) (by kernel_rfl) (by simp) ?_
        refine AllReadyH.cons rfl (fun K hK => ?_) AllReadyH.nil
        go_simp
        refine hK.out _ _ (hHeld.setCell (p := ⟨_, 0, none⟩) HGX.out _) (fun hHeld1 => ?_)
        clear hK K
        (try simp only [Act.put, List.setIfInBounds_toArray, List.set_cons_zero, List.set_cons_succ])
        clear hHeld; have hHeld := hHeld1; clear hHeld1
        refine wpAnyH_take (i := 14) (oi := ?o922) (v := ?v922) ?hi922 (by kernel_rfl) (by kernel_rfl) (by kernel_rfl) ?hq922 ?hy922 (by assumption) ?hr922
        case hi922 => (simp only [List.getElem?_toArray, List.getElem?_cons_succ, List.getElem?_cons_zero]; rfl)
        case hy922 => ((refine .inl ⟨by rfl, ?_⟩); intro w hS; go_simp; (try with_reducible rfl))
        case hq922 => exact fun _ _ _ h => h
        (simp only [Act.put, List.setIfInBounds_toArray, List.set_cons_zero, List.set_cons_succ])
        refine wpAnyH_take (i := 15) (oi := ?o923) (v := ?v923) ?hi923 (by kernel_rfl) (by kernel_rfl) (by kernel_rfl) ?hq923 ?hy923 (by assumption) ?hr923
        case hi923 => (simp only [List.getElem?_toArray, List.getElem?_cons_succ, List.getElem?_cons_zero]; rfl)
        case hy923 => ((refine .inl ⟨by rfl, ?_⟩); intro w hS; go_simp; (try with_reducible rfl))
        case hq923 => exact fun _ _ _ h => h
        (simp only [Act.put, List.setIfInBounds_toArray, List.set_cons_zero, List.set_cons_succ])
        refine wpAnyH_done (by kernel_rfl) ?_ _
        exact HREST.out _ A4 c4 _ hHeld (HBX.out.set_ 0 (.string cs)) HGX.out
    · skip
      go_simp
      refine hK.out _ _ (hHeld.alloc hHeld.size _) (fun hHeld1 => ?_)
      clear hK K
      (try simp only [Act.put, List.setIfInBounds_toArray, List.set_cons_zero, List.set_cons_succ])
      have HBX : Hid (RowAt ((World.drew W).alloc (.cells #[.string ⟨#[]⟩] 9)) W.heap.size 9 #[.string ⟨#[]⟩]) := Lib.hid (RowAt.new (World.drew W) 9 #[.string ⟨#[]⟩])
      have qx := HBX.out.cell
      have fx := HBX.out.frozen
      have HGX : Hid (W.heap.size ≤ W.heap.size) := Lib.hid (by have h := hHeld.size; first | exact h | exact Nat.le_refl _)
      clear hHeld; have hHeld := hHeld1; clear hHeld1
      refine wpAnyH_ready (rs := [3]) (by kernel_rfl) (by simp) ?_
      refine AllReadyH.cons rfl (fun K hK => ?_) AllReadyH.nil
      go_simp
      go_wp2_with ((with_reducible refine (CT.out _ hHeld).mono ?_); rintro e w3 ⟨rfl, hb3⟩)
      refine hK.out _ _ (hHeld.trans (hb3.mono hHeld.size)) (fun hHeld1 => ?_)
      clear hK K
      (try simp only [Act.put, List.setIfInBounds_toArray, List.set_cons_zero, List.set_cons_succ])
      have HBX := Lib.hid (HBX.out.below hb3 HBX.out.lt)
      have qx := HBX.out.cell
      have fx := HBX.out.frozen
      clear hb3
      clear hHeld; have hHeld := hHeld1; clear hHeld1
      refine wpAnyH_ready (rs := [6]) (by kernel_rfl) (by simp) ?_
      refine AllReadyH.cons rfl (fun K hK => ?_) AllReadyH.nil
      go_simp
      go_wp2_with ((with_reducible refine (CPO.out _ hHeld).mono ?_); rintro e w4 ⟨hb4, A4, c4, rfl, ho4⟩)
      refine hK.out _ _ (hHeld.trans (hb4.mono hHeld.size)) (fun hHeld1 => ?_)
      clear hK K
      (try simp only [Act.put, List.setIfInBounds_toArray, List.set_cons_zero, List.set_cons_succ])
      have HO4 := Lib.hid ho4
      clear ho4
      have HBX := Lib.hid (HBX.out.below hb4 HBX.out.lt)
      have qx := HBX.out.cell
      have fx := HBX.out.frozen
      clear hb4
      clear hHeld; have hHeld := hHeld1; clear hHeld1
      refine wpAnyH_ready (rs := [7]) (by kernel_rfl) (by simp) ?_
      refine AllReadyH.cons rfl (fun K hK => ?_) AllReadyH.nil
      go_simp
      go_wp2_with ((refine (HCD.out _ A4 c4 (SlAt.of_own' HO4.out (Nat.le_refl _))).mono ?_); rintro e w5 ⟨rfl, hb5⟩)
      refine hK.out _ _ (hHeld.trans (hb5.mono hHeld.size)) (fun hHeld1 => ?_)
      clear hK K
      (try simp only [Act.put, List.setIfInBounds_toArray, List.set_cons_zero, List.set_cons_succ])
      have HBX := Lib.hid (HBX.out.below hb5 HBX.out.lt)
      have qx := HBX.out.cell
      have fx := HBX.out.frozen
      clear hb5
      clear hHeld; have hHeld := hHeld1; clear hHeld1
      refine wpAnyH_take (i := 8) (oi := ?o924) (v := ?v924) ?hi924 (by kernel_rfl) (by kernel_rfl) (by kernel_rfl) ?hq924 ?hy924 (by assumption) ?hr924
      case hi924 => (simp only [List.getElem?_toArray, List.getElem?_cons_succ, List.getElem?_cons_zero]; rfl)
      case hy924 => ((refine .inl ⟨by rfl, ?_⟩); intro w hS; go_simp; (try with_reducible rfl))
      case hq924 => exact fun _ _ _ h => h
      (simp only [Act.put, List.setIfInBounds_toArray, List.set_cons_zero, List.set_cons_succ])
      refine wpAnyH_take (i := 9) (oi := ?o925) (v := ?v925) ?hi925 (by kernel_rfl) (by kernel_rfl) (by kernel_rfl) ?hq925 ?hy925 (by assumption) ?hr925
      case hi925 => (simp only [List.getElem?_toArray, List.getElem?_cons_succ, List.getElem?_cons_zero]; rfl)
      case hy925 => ((refine .inl ⟨by rfl, ?_⟩); intro w hS; go_simp; (try with_reducible rfl))
      case hq925 => exact fun _ _ _ h => h
      (simp only [Act.put, List.setIfInBounds_toArray, List.set_cons_zero, List.set_cons_succ])
      refine wpAnyH_take (i := 10) (oi := ?o926) (v := ?v926) ?hi926 (by kernel_rfl) (by kernel_rfl) (by kernel_rfl) ?hq926 ?hy926 (by assumption) ?hr926
      case hi926 => (simp only [List.getElem?_toArray, List.getElem?_cons_succ, List.getElem?_cons_zero]; rfl)
      case hy926 => ((refine .inl ⟨by rfl, ?_⟩); intro w hS; go_simp; (try with_reducible rfl))
      case hq926 => exact fun _ _ _ h => h
      (simp only [Act.put, List.setIfInBounds_toArray, List.set_cons_zero, List.set_cons_succ])
      refine wpAnyH_take (i := 11) (oi := ?o927) (v := ?v927) ?hi927 (by kernel_rfl) (by kernel_rfl) (by kernel_rfl) ?hq927 ?hy927 (by assumption) ?hr927
      case hi927 => (simp only [List.getElem?_toArray, List.getElem?_cons_succ, List.getElem?_cons_zero]; rfl)
      case hy927 => ((refine .inl ⟨by rfl, ?_⟩); intro w hS; go_simp; (try with_reducible rfl))
      case hq927 => exact fun _ _ _ h => h
      (simp only [Act.put, List.setIfInBounds_toArray, List.set_cons_zero, List.set_cons_succ])
      refine wpAnyH_ready (rs := [13]) (by kernel_rfl) (by simp) ?_
      refine AllReadyH.cons rfl (fun K hK => ?_) AllReadyH.nil
      go_simp
      refine hK.out _ _ (hHeld.setCell (p := ⟨_, 0, none⟩) HGX.out _) (fun hHeld1 => ?_)
      clear hK K
      (try simp only [Act.put, List.setIfInBounds_toArray, List.set_cons_zero, List.set_cons_succ])
      clear hHeld; have hHeld := hHeld1; clear hHeld1
      refine wpAnyH_take (i := 14) (oi := ?o928) (v := ?v928) ?hi928 (by kernel_rfl) (by kernel_rfl) (by kernel_rfl) ?hq928 ?hy928 (by assumption) ?hr928
      case hi928 => (simp only [List.getElem?_toArray, List.getElem?_cons_succ, List.getElem?_cons_zero]; rfl)
      case hy928 => ((refine .inl ⟨by rfl, ?_⟩); intro w hS; go_simp; (try with_reducible rfl))
      case hq928 => exact fun _ _ _ h => h
      (simp only [Act.put, List.setIfInBounds_toArray, List.set_cons_zero, List.set_cons_succ])
      refine wpAnyH_take (i := 15) (oi := ?o929) (v := ?v929) ?hi929 (by kernel_rfl) (by kernel_rfl) (by kernel_rfl) ?hq929 ?hy929 (by assumption) ?hr929
      case hi929 => (simp only [List.getElem?_toArray, List.getElem?_cons_succ, List.getElem?_cons_zero]; rfl)
      case hy929 => ((refine .inl ⟨by rfl, ?_⟩); intro w hS; go_simp; (try with_reducible rfl))
      case hq929 => exact fun _ _ _ h => h
      (simp only [Act.put, List.setIfInBounds_toArray, List.set_cons_zero, List.set_cons_succ])
      refine wpAnyH_done (by kernel_rfl) ?_ _
      exact HREST.out _ A4 c4 _ hHeld (HBX.out.set_ 0 (.string cs)) HGX.out
  case done =>
    rintro D σ xs W hD hS ⟨⟨ch, Dl, hI⟩, hlo⟩ hKD
    have hxl : xs.length = 138 := by
      have := congrArg List.length (show xs.map (·.l) = wordsL from hS)
      rw [List.length_map, wordsL_length] at this
      exact this
    obtain ⟨i1, i3, i4, i5, i8, iby, ioff, iset, ichg⟩ := hI
    rw [hxl, peelK_full] at ioff iset ichg
    have q8 := i8.cell
    have q5 := i5.cell
    have hln := iset.len 3
    have hg := grownBy_putObj' W D (.deferred none)
    have hDw : w.heap.size ≤ D := Nat.le_trans H0.out.1.both.size hD
    have hbD : b < D := Nat.lt_of_lt_of_le (Nat.lt_of_lt_of_le HSS.out.lt H0.out.1.both.size) hD
    have hgD : g < D := Nat.lt_of_lt_of_le (Nat.lt_of_lt_of_le HBY.out.lt H0.out.1.both.size) hD
    have HF := Lib.hid (And.intro (i1.grown hg (fun r e => by cases e; exact .inr (.inr hDw))) (And.intro (bytes_grown iby hg (fun e => by injection e with e; omega)) (And.intro ioff (And.intro (iset.kept hg (fun e => by injection e with e; omega)) ichg))))
    obtain ⟨np, hnp⟩ : ∃ np, (peelP l0).length = np := ⟨_, rfl⟩
    rw [hnp] at hln
    have HNP := Lib.hid hnp
    have HKD := Lib.hid hKD
    clear i1 i3 i4 i5 i8 iby ioff iset ichg hg hS hKD hxl hnp hlo
    by_cases hlt : np < l0.length
    · have hltI : (np : Int) < (l0.length : Int) := by omega
      have HDEC : Hid (decide ((peelP l0).length < l0.length) = true) := Lib.hid (by rw [HNP.out]; simpa using hlt)
      gi_wp2
      go_wp2_with fail
      refine ⟨by simp, .inl ⟨_, _, rfl, run_takeDeferred HKD.out, ?_⟩⟩
      refine ⟨.tuple #[.bool ch, .bool true], ?_, HF.out.1, ch, Dl, by rw [HDEC.out], HF.out.2⟩
      simp [results, Tryz.f46, go_sem]
    · have hltI : ¬ (np : Int) < (l0.length : Int) := by omega
      have HDEC : Hid (decide ((peelP l0).length < l0.length) = false) := Lib.hid (by rw [HNP.out]; simpa using hlt)
      gi_wp2
      go_wp2_with fail
      refine ⟨by simp, .inl ⟨_, _, rfl, run_takeDeferred HKD.out, ?_⟩⟩
      refine ⟨.tuple #[.bool ch, .bool false], ?_, HF.out.1, ch, Dl, by rw [HDEC.out], HF.out.2⟩
      simp [results, Tryz.f46, go_sem]
end Go.Proofs.YtlnjphggfbiabaaGreat
