/-
  A loop over an iterator that never ends by itself: what holds between the rounds bounds their number, and the body leaves the loop.
-/
import Derived.Test.YtlnjphggfbiabaaGreatMRg
import Derived.Sort.CutIn
import Derived.Deep.Cut
namespace Go.Proofs.YtlnjphggfbiabaaGreat
open Go.RowKit
set_option linter.unusedVariables false
section
variable {F : Fence} {n : Nat} {P : Program}
/-- What such an iterator owes. -/
def SeqLim {α : Type} (F : Fence) (n : Nat) (P : Program) (g : Nat) (lb : Array Value) (encs : α → Array Value) (Kp : World → World → Prop) (Sp : List α → Prop) (N : Nat) (w : World) : Prop :=
  ∀ (l : Nat) (J Jx : List α → World → Prop) (W : World), Below w.heap.size w W → (∀ pre W1, J pre W1 → pre.length < N) →
    (∀ pre x W1, J pre W1 → YieldAt F (n - 1) P l (encs x) W1 fun e W' =>
      (e = .returned (.bool true) ∧ J (pre ++ [x]) W' ∧ Kp W1 W') ∨ (e = .returned (.bool false) ∧ Jx (pre ++ [x]) W')) →
    J [] W →
    CallsIn F n P g (#[.func (.yield l) #[] #[]] ++ lb) W fun e W' => (∃ v, e = .returned v) ∧ (∃ pre, Sp pre ∧ Jx pre W')

theorem range_lim {α : Type} {g : Operand} {ps : Array Tmp} {assign body : Code} {Q : Exit → Act → World → Prop} {a : Act} {w : World}
    (hro : F.round = none) (h1 : 1 ≤ n) {gf : Nat} {lb : Array Value} (hg : a.eval g = .func (.func gf) #[] lb) (hFg : F.fn gf) (eg : ∀ args w, (callFunc gf args).run P w = .ok (.enter gf args) w)
    {encs : α → Array Value} {Kp : World → World → Prop} {Sp : List α → Prop} {N : Nat} {w0 : World} (hseq : SeqLim F (n - 1) P gf lb encs Kp Sp N w0)
    (hKt : ∀ {A B C : World}, Kp A B → Kp B C → Kp A C) (hKb : ∀ (W : World) (l : Nat) (o o' : Obj), w.heap.size ≤ l → W.heap[l]? = some o → o.isCells = false → o.isWalk = false → Kp W (W.putObj l o')) (hb0 : Below w0.heap.size w0 w) (hps : ∀ x, (encs x).size = ps.size)
    (I : List α → World → Prop) (Ix : Code → List α → World → Prop) (hI : OwnFrom w.heap.size I) (hIx : ∀ c, OwnFrom w.heap.size (Ix c)) (hlim : ∀ pre W, I pre W → pre.length < N) (h0 : I [] w) (a₁ : α → Act)
    (hassign : ∀ (l : Nat) (x : α) (W : World) (K : Act → World → Prop), K (a₁ x) W →
      assign.wpIn (F.inRound l) (n - 1 - 1) P (Exit.then K (fun _ _ _ => False)) { tmps := (ps.zip (encs x)).foldl (fun t (p, v) => t.setIfInBounds p v) a.tmps, defers := [] } W)
    (hbody : ∀ (l : Nat) (pre : List α) (x : α) (W : World), I pre W → body.wpIn (F.inRound l) (n - 1 - 1) P (ownPostG w.heap.size Kp I Ix (pre ++ [x]) W) (a₁ x) W)
    (hstop : ∀ (D : Nat) (c : Code) (pre : List α) (W : World), w.heap.size ≤ D → Sp pre → Ix c pre W → W.heap[D]? = some (.deferred (some [])) → c.wpIn F n P Q { a with defers := { target := .collected D, args := #[] } :: a.defers } W) :
    (Code.rangeFunc g ps assign body).wpIn F n P Q a w := by
  refine wpIn_rangeFunc ?_
  intro fn hfn
  rw [hro]
  obtain ⟨rec, hrec⟩ : ∃ rec : LoopState → Option Code → Loop, rec = fun st pe => { state := st, pending := pe, fn, tmps := a.tmps, params := ps, assign, body, defers := w.heap.size } := ⟨_, rfl⟩
  obtain ⟨W1, hW1⟩ : ∃ W1, (w.alloc (.deferred (some []))).alloc (.loop (rec .ready none)) = W1 := ⟨_, rfl⟩
  have hL1 : W1.heap[w.heap.size + 1]? = some (.loop (rec .ready none)) := by
    rw [← hW1]; have := World.alloc_heap_new (w.alloc (.deferred (some []))) (.loop (rec .ready none)); rwa [World.size_alloc] at this
  have hK1 : W1.heap[w.heap.size]? = some (.deferred (some [])) := by
    rw [← hW1]; exact (Below.heap_alloc _ _ _ (by simp)).trans (World.alloc_heap_new w _)
  have hI1 : I [] W1 := by rw [← hW1]; exact hI.alloc _ (hI.alloc _ h0)
  have hb1 : Below w0.heap.size w0 W1 := by
    rw [← hW1]; exact hb0.trans ((((Below.refl _ w).alloc (Nat.le_refl _) _).alloc (by simp) _).mono hb0.size)
  refine ⟨w.heap.size + 1, [{ target := .collected w.heap.size, args := #[] }], W1, { target := .fn (.func gf) lb, args := #[.func (.yield (w.heap.size + 1)) #[] #[]] }, W1, gf,
    #[.func (.yield (w.heap.size + 1)) #[] #[]] ++ lb, W1, ?_, ?_, ?_, ?_, fun _ => h1, ?_⟩
  · rw [← hW1, hrec]; exact run_enterLoop_outer _ _ _ _ _
  · simp only [resolve, hg]
    simp [go_sem]
  · intro f' hf'; simp [Target.leads] at hf'; subst hf'; exact hFg
  · simp [invoke, go_sem, eg]
  · refine (hseq (w.heap.size + 1)
      (fun pre W => I pre W ∧ W.heap[w.heap.size + 1]? = some (.loop (rec .ready none)) ∧ W.heap[w.heap.size]? = some (.deferred (some [])))
      (fun pre W => ∃ c, Ix c pre W ∧ W.heap[w.heap.size + 1]? = some (.loop (rec .done (some c))) ∧ W.heap[w.heap.size]? = some (.deferred (some [])))
      W1 hb1 (fun pre W h => hlim pre W h.1) ?_ ⟨hI1, hL1, hK1⟩).mono ?_
    · rintro pre x W ⟨hi, hl, hk⟩
      have hlt : w.heap.size + 1 < W.heap.size := (Array.getElem?_eq_some_iff.1 hl).1
      have hy := run_yield (P := P) (args := encs x) hl (by rw [hrec]; exact hps x)
      rw [hrec] at hy
      refine ⟨fn, _, assign, body, hy, roundIn_of_wpIn hfn (hassign _ x W _ ⟨_, run_beginRound hl (by rw [hrec]), ?_⟩)⟩
      have hl2 : (W.putObj (w.heap.size + 1) (.loop { rec .ready none with state := .busy })).heap[w.heap.size + 1]? = some (.loop { rec .ready none with state := .busy }) := World.putObj_heap_same hlt
      have hk2 : (W.putObj (w.heap.size + 1) (.loop { rec .ready none with state := .busy })).heap[w.heap.size]? = some (.deferred (some [])) := (World.putObj_heap_other (by omega)).trans hk
      have hw2 : Kp W (W.putObj (w.heap.size + 1) (.loop { rec .ready none with state := .busy })) := hKb _ _ _ _ (by omega) hl rfl rfl
      refine wpIn_mono (hbody _ pre x _ (hI.putObj _ hi (by omega) hl rfl)) ?_
      have fin : ∀ (jump : Option Code) (W3 : World), KeepsFrom w.heap.size (W.putObj (w.heap.size + 1) (.loop { rec .ready none with state := .busy })) W3 →
          (Instr.endRound (w.heap.size + 1) jump).run P W3 = .ok (.bool jump.isNone) (W3.putObj (w.heap.size + 1) (.loop (rec (if jump.isNone then .ready else .done) jump))) ∧
          W3.heap[w.heap.size + 1]? = some (.loop { rec .ready none with state := .busy }) ∧
          (W3.putObj (w.heap.size + 1) (.loop (rec (if jump.isNone then .ready else .done) jump))).heap[w.heap.size + 1]? = some (.loop (rec (if jump.isNone then .ready else .done) jump)) ∧
          (W3.putObj (w.heap.size + 1) (.loop (rec (if jump.isNone then .ready else .done) jump))).heap[w.heap.size]? = some (.deferred (some [])) := fun jump W3 hk3 => by
        have hl3 := hk3.same _ _ (by omega) hl2 rfl
        have := run_endRound (P := P) jump hl3
        rw [hrec] at this ⊢
        exact ⟨this, by rw [hrec] at hl3; exact hl3, World.putObj_heap_same (Array.getElem?_eq_some_iff.1 hl3).1, (World.putObj_heap_other (by omega)).trans (hk3.same _ _ (Nat.le_refl _) hk2 rfl)⟩
      rintro e a3 W3 hp
      cases e with
      | normal =>
        obtain ⟨hk3, hkp3, hi3⟩ := hp
        obtain ⟨hr, hl3, hl4, hk4⟩ := fin none W3 hk3
        exact ⟨_, _, hr, .inl ⟨rfl, ⟨hI.putObj _ hi3 (by omega) hl3 rfl, hl4, hk4⟩, hKt (hKt hw2 hkp3) (hKb _ _ _ _ (by omega) hl3 rfl rfl)⟩⟩
      | ret =>
        obtain ⟨hk3, hi3⟩ := hp
        obtain ⟨hr, hl3, hl4, hk4⟩ := fin (some .ret) W3 hk3
        exact ⟨_, _, hr, .inr ⟨rfl, .ret, (hIx _).putObj _ hi3 (by omega) hl3 rfl, hl4, hk4⟩⟩
      | exit id =>
        obtain ⟨hk3, hi3⟩ := hp
        obtain ⟨hr, hl3, hl4, hk4⟩ := fin (some (.exit id)) W3 hk3
        exact ⟨_, _, hr, .inr ⟨rfl, .exit id, (hIx _).putObj _ hi3 (by omega) hl3 rfl, hl4, hk4⟩⟩
      | goto t =>
        obtain ⟨hk3, hi3⟩ := hp
        obtain ⟨hr, hl3, hl4, hk4⟩ := fin (some (.goto t)) W3 hk3
        exact ⟨_, _, hr, .inr ⟨rfl, .goto t, (hIx _).putObj _ hi3 (by omega) hl3 rfl, hl4, hk4⟩⟩
      | panic ch => exact hp.elim
      | outgrown => exact hp.elim
    · rintro e W2 ⟨⟨v, rfl⟩, ⟨pre, hSp, c, hi, hl, hk⟩⟩
      exact ⟨some c, _, by have := run_endLoop (P := P) hl (by rw [hrec]; simp); rw [hrec] at this; exact this, hstop _ c pre _ (Nat.le_refl _) hSp ((hIx c).putObj _ hi (by omega) hl rfl) ((World.putObj_heap_other (by omega)).trans hk)⟩
end

/-- A loop with a number of rounds that a bound ends. -/
theorem rounds_ind {F : Fence} {n : Nat} {P : Program} {β : Type} {c : Code} {Q : Exit → Act → World → Prop} (A : Nat → β → Act) (Inv : Nat → World → Prop) (N : Nat) (hbound : ∀ k W, Inv k W → k < N)
    (step : ∀ k x W (K : Act → World → Prop), Inv k W → (∀ x' W', Inv (k + 1) W' → K (A (k + 1) x') W') → c.wpIn F n P (Exit.then K Q) (A k x) W) : ∀ m k x W, k + m = N → Inv k W → Code.roundsIn F n P c Q m (A k x) W
  | 0, k, x, W, hk, h => by
    have := hbound k W h
    omega
  | m + 1, k, x, W, hk, h => by
    rw [roundsIn_succ]
    exact step k x W _ h (fun x' W' h' => rounds_ind A Inv N hbound step m (k + 1) x' W' (by omega) h')
/-! ### The registers -/
def regN : Nat → Nat
  | 0 => 1
  | k + 1 => (regN k / 2) ||| ((regN k % 2 ^^^ regN k / 2 % 2) * 16384)
theorem regN_lt : ∀ k, regN k < 32768
  | 0 => by decide
  | k + 1 => by
    have := regN_lt k
    have h1 : regN k % 2 ^^^ regN k / 2 % 2 < 2 := Nat.xor_lt_two_pow (n := 1) (by omega) (by omega)
    exact Nat.or_lt_two_pow (n := 15) (by omega) (by omega)
theorem i64_bits {a b : Nat} (ha : a < 4611686018427387904) (hb : b < 4611686018427387904) :
    bits .or .i64 (a : Int) (b : Int) = ((a ||| b : Nat) : Int) ∧ bits .xor .i64 (a : Int) (b : Int) = ((a ^^^ b : Nat) : Int) ∧ bits .and .i64 (a : Int) (b : Int) = ((a &&& b : Nat) : Int) := by
  refine ⟨?_, ?_, ?_⟩
  · have hx : a ||| b < 2 ^ 62 := Nat.or_lt_two_pow (by omega) (by omega)
    show IntKind.i64.wrap ((BitVec.ofInt 64 (a : Int) ||| BitVec.ofInt 64 (b : Int)).toNat : Int) = _
    rw [BitVec.toNat_or, ofInt_u64 a (by omega), ofInt_u64 b (by omega), IntKind.wrap_i64]
    omega
  · have hx : a ^^^ b < 2 ^ 62 := Nat.xor_lt_two_pow (by omega) (by omega)
    show IntKind.i64.wrap ((BitVec.ofInt 64 (a : Int) ^^^ BitVec.ofInt 64 (b : Int)).toNat : Int) = _
    rw [BitVec.toNat_xor, ofInt_u64 a (by omega), ofInt_u64 b (by omega), IntKind.wrap_i64]
    omega
  · have hx : a &&& b < 2 ^ 62 := Nat.and_lt_two_pow _ (by omega)
    show IntKind.i64.wrap ((BitVec.ofInt 64 (a : Int) &&& BitVec.ofInt 64 (b : Int)).toNat : Int) = _
    rw [BitVec.toNat_and, ofInt_u64 a (by omega), ofInt_u64 b (by omega), IntKind.wrap_i64]
    omega
theorem i64_and1 {a : Nat} (ha : a < 4611686018427387904) : bits .and .i64 (a : Int) 1 = ((a % 2 : Nat) : Int) := by
  have := (i64_bits (b := 1) ha (by decide)).2.2
  rw [Nat.and_one_is_mod] at this
  exact this
abbrev RgG := { r : Nat // r < 32768 }
def encR (x : RgG) : Array Value := #[.int .i64 (x.1 : Int)]
def regs (N : Nat) : List RgG := (List.range N).map fun k => ⟨regN k, regN_lt k⟩
theorem regs_length (N : Nat) : (regs N).length = N := by simp [regs]
theorem regs_get {N k : Nat} (h : k < N) : (regs N)[k]? = some ⟨regN k, regN_lt k⟩ := by simp [regs, h]
set_option maxRecDepth 100000 in
set_option maxHeartbeats 4000000 in
theorem reg1_in (F : Fence) (n : Nat) (h78 : F.fn 117) (hro : F.round = none) (hn : 1 ≤ n) (l N : Nat) (J Jx : List RgG → World → Prop) (hlim : ∀ pre W, J pre W → pre.length < N)
    (hY : ∀ pre x W, J pre W → YieldAt F (n - 1) Tryz.prog l (encR x) W fun e W' =>
      (e = .returned (.bool true) ∧ J (pre ++ [x]) W' ∧ True) ∨ (e = .returned (.bool false) ∧ Jx (pre ++ [x]) W'))
    (W : World) (h0 : J [] W) :
    CallsIn F n Tryz.prog 117 #[.func (.yield l) #[] #[]] W fun e W' => (∃ v, e = .returned v) ∧ (∃ pre, pre <+: regs N ∧ Jx pre W') := by
  refine callsIn_of_wp Tryz.func117 rfl h78 ?_ hro
  simp only [Tryz.ntmps117, List.size_toArray, List.length_cons, List.length_nil, Nat.reduceAdd, Nat.reduceSub, Array.replicate_succ, Array.replicate_zero, List.push_toArray, List.append_toArray, List.nil_append, List.cons_append]
  have HL := Lib.hid (regs_length N)
  have HG := Lib.hid (fun k (h : k < N) => regs_get h)
  have HLM := Lib.hid hlim
  have HJ := Lib.hid h0
  clear h0 hlim
  gi_wp2
  refine wpIn_loop_rounds N ?_
  refine rounds_ind (β := Value × Value × Value × Value × Value × Value × Value × Value × Value × Value × Value × Value × Value)
    (fun k u => { tmps := #[.func (.yield l) #[] #[], undef, .int .i64 ((regN k : Nat) : Int), u.1, u.2.1, u.2.2.1, u.2.2.2.1, u.2.2.2.2.1, u.2.2.2.2.2.1, u.2.2.2.2.2.2.1, u.2.2.2.2.2.2.2.1, u.2.2.2.2.2.2.2.2.1, u.2.2.2.2.2.2.2.2.2.1, u.2.2.2.2.2.2.2.2.2.2.1, u.2.2.2.2.2.2.2.2.2.2.2.1, u.2.2.2.2.2.2.2.2.2.2.2.2], defers := [] })
    (fun k W => k ≤ N ∧ J ((regs N).take k) W) N ?bd ?step N 0 (undef, undef, undef, undef, undef, undef, undef, undef, undef, undef, undef, undef, undef) W (by omega) ⟨Nat.zero_le _, by simpa using HJ.out⟩
  case bd =>
    rintro k W ⟨hk, hJ⟩
    have := HLM.out _ _ hJ
    rw [List.length_take, HL.out] at this
    omega
  case step =>
    rintro k ⟨u3, u4, u5, u6, u7, u8, u9, u10, u11, u12, u13, u14, u15⟩ W1 K ⟨hkN, hJ⟩ hK
    dsimp only
    have hk : k < N := by
      have := HLM.out _ _ hJ
      rw [List.length_take, HL.out] at this
      omega
    obtain ⟨z, hz1, hz2⟩ : ∃ z : RgG, (regs N)[k]? = some z ∧ z.1 = regN k := ⟨_, HG.out k hk, rfl⟩
    have HT1 := Lib.hid (take_next hz1)
    have HK := Lib.hid hK
    have hr := regN_lt k
    have HS : Hid (regN (k + 1) = (regN k / 2) ||| ((regN k % 2 ^^^ regN k / 2 % 2) * 16384)) := Lib.hid rfl
    obtain ⟨fn, tmps, assign, body, hyy, hR⟩ := hY ((regs N).take k) z W1 hJ
    unfold encR at hyy
    rw [hz2] at hyy
    clear hK hz1 hz2
    generalize hrr : regN k = r at *
    have hx : r % 2 ^^^ r / 2 % 2 < 2 := Nat.xor_lt_two_pow (n := 1) (by omega) (by omega)
    have HE : Hid (bits .or .i64 ((r : Int) / 2) (wrap64 (bits .xor .i64 (bits .and .i64 (r : Int) 1) (bits .and .i64 ((r : Int) / 2) 1) * 16384)) = (((r / 2) ||| ((r % 2 ^^^ r / 2 % 2) * 16384) : Nat) : Int)) := Lib.hid (by
      have b1 := i64_and1 (a := r) (by omega)
      have b2 : bits .and .i64 ((r : Int) / 2) 1 = ((r / 2 % 2 : Nat) : Int) := i64_and1 (a := r / 2) (by omega)
      have b3 := (i64_bits (a := r % 2) (b := r / 2 % 2) (by omega) (by omega)).2.1
      rw [b1, b2, b3]
      generalize r % 2 ^^^ r / 2 % 2 = X at *
      rw [IntWalk.wrap64_in _ (by omega)]
      have b4 := (i64_bits (a := r / 2) (b := X * 16384) (by omega) (by omega)).1
      rw [Int.natCast_ediv, Int.natCast_mul] at b4
      exact b4)
    gi_wp2
    refine hR.mono ?_
    rintro e W3 (⟨rfl, hJ3, _⟩ | ⟨rfl, hJx3⟩)
    · rw [← HT1.out] at hJ3
      gi_wp2
      have h := fun x' => HK.out x' W3 ⟨by omega, hJ3⟩
      rw [HS.out] at h
      rw [HE.out]
      exact h (_, _, _, _, _, _, _, _, _, _, _, _, _)
    · rw [← HT1.out] at hJx3
      gi_wp2
      go_end0
      exact ⟨⟨_, rfl⟩, _, List.take_prefix _ _, hJx3⟩
end Go.Proofs.YtlnjphggfbiabaaGreat

/-
  scrambler: sequence.
-/
namespace Go.Proofs.YtlnjphggfbiabaaGreat
open Go.RowKit Go.Shelf
set_option linter.unusedVariables false
set_option linter.unusedSimpArgs false
attribute [local go_sem] Oper.semAt_some

def seqStep (o : List Nat × Nat) (x : RgG) : List Nat × Nat := (o.1.set (o.2 / 8) ((o.1[o.2 / 8]?.getD 0) ||| (x.1 % 2 * 2 ^ (o.2 % 8))), o.2 + 1)
def seqP (n : Nat) (pre : List RgG) : List Nat × Nat := pre.foldl seqStep (List.replicate n 0, 0)
def seqL (n : Nat) (pre : List RgG) : List Nat := (seqP n pre).1
theorem seqP_snd (n : Nat) : ∀ (pre : List RgG) (o : List Nat × Nat), (pre.foldl seqStep o).2 = o.2 + pre.length ∧ (pre.foldl seqStep o).1.length = o.1.length ∧ (B8 o.1 → B8 (pre.foldl seqStep o).1)
  | [], o => ⟨rfl, rfl, fun h => h⟩
  | x :: pre, o => by
    obtain ⟨h1, h2, h3⟩ := seqP_snd n pre (seqStep o x)
    refine ⟨?_, ?_, fun h => ?_⟩
    · rw [List.foldl_cons, h1, List.length_cons]
      show o.2 + 1 + pre.length = _
      omega
    · rw [List.foldl_cons, h2]
      show (o.1.set _ _).length = _
      rw [List.length_set]
    · rw [List.foldl_cons]
      refine h3 (h.set ?_ _)
      refine Nat.or_lt_two_pow (n := 8) (h.getD _) ?_
      have h7 : 2 ^ (o.2 % 8) ≤ 2 ^ 7 := Nat.pow_le_pow_right (by decide) (by omega)
      have h1 : x.1 % 2 ≤ 1 := by omega
      calc x.1 % 2 * 2 ^ (o.2 % 8) ≤ 1 * 2 ^ 7 := Nat.mul_le_mul h1 h7
        _ < 2 ^ 8 := by decide
theorem seqL_snoc (n : Nat) (pre : List RgG) (x : RgG) : seqL n (pre ++ [x]) = (seqL n pre).set (pre.length / 8) (((seqL n pre)[pre.length / 8]?.getD 0) ||| (x.1 % 2 * 2 ^ (pre.length % 8))) := by
  have h := (seqP_snd n pre (List.replicate n 0, 0)).1
  rw [Nat.zero_add] at h
  unfold seqL seqP
  rw [List.foldl_append]
  show (seqStep (pre.foldl seqStep (List.replicate n 0, 0)) x).1 = _
  generalize pre.foldl seqStep (List.replicate n 0, 0) = o at *
  unfold seqStep
  rw [h]
theorem seqL_len (n : Nat) (pre : List RgG) : (seqL n pre).length = n ∧ B8 (seqL n pre) := by
  obtain ⟨_, h2, h3⟩ := seqP_snd n pre (List.replicate n 0, 0)
  exact ⟨by unfold seqL seqP; rw [h2]; simp, h3 (B8.zeros n)⟩
/-- The first n bytes of the scrambling sequence. -/
def seqN (n : Nat) : List Nat := seqL n (regs (8 * n))
theorem regs_pre {pre : List RgG} {x : RgG} {N k : Nat} (h : pre ++ [x] <+: regs N) (hk : pre.length = k) : pre = regs k := by
  obtain ⟨t, ht⟩ := h
  have e := congrArg (List.take k) ht
  rw [List.append_assoc, List.take_left' hk] at e
  rw [e]
  have hl : k ≤ N := by
    have := congrArg List.length ht
    rw [regs_length] at this
    simp at this
    omega
  unfold regs
  rw [← List.map_take, List.take_range, Nat.min_eq_left hl]
def sqRows (h0 n : Nat) (out : List Nat) (i : Nat) : Rows := [(h0 + 1 + 1 + 1, 3, #[.int .i64 (i : Int)]), (h0 + 1 + 1, 75, #[.slice (some ⟨h0 + 1, 0, none⟩) n n]), (h0 + 1, 5, (natV out).toArray), (h0, 3, #[.int .i64 (n : Int)])]
theorem regs_in (F : Fence) (n : Nat) (h58 : F.fn 81) (hro : F.round = none) (w : World) :
    CallsIn F n Tryz.prog 81 #[] w fun e w' => e = .returned (.func (.func 117) #[] #[]) ∧ w' = w := by
  refine callsIn_of_wp Tryz.func81 rfl h58 ?_ hro
  simp only [Tryz.ntmps81, List.size_toArray, List.length_cons, List.length_nil, Nat.reduceAdd, Nat.reduceSub, Array.replicate_succ, Array.replicate_zero, List.push_toArray, List.append_toArray, List.nil_append, List.cons_append]
  gi_wp2
  go_ret
  exact ⟨rfl, rfl⟩
theorem regs_lim (F : Fence) (n : Nat) (h78 : F.fn 117) (hro : F.round = none) (hn : 1 ≤ n) (N : Nat) (w : World) :
    SeqLim F n Tryz.prog 117 #[] encR (fun _ _ => True) (fun pre => pre <+: regs N) N w := fun l J Jx W _ hlim hY h0 =>
  reg1_in F n h78 hro hn l N J Jx hlim hY W h0
set_option maxRecDepth 100000 in
set_option maxHeartbeats 4000000 in
theorem sequence_any (n : Nat) (w : World) (hn : n ≤ 100000) (hn0 : 0 < n) :
    Calls Tryz.prog 37 #[.int .i64 (n : Int)] w fun e w' => ∃ g, w.heap.size ≤ g ∧ e = .returned (.slice (some ⟨g, 0, none⟩) n n) ∧ RowAt w' g 5 (natV (seqN n)).toArray ∧ Below w.heap.size w w' := by
  have hmk := fun w' => run_mk8 Tryz.underlying75 n (by omega) w'
  have hmz : (madeCells #[.int .u8 0] n : Array Value) = (natV (List.replicate n 0)).toArray := by
    apply Array.toList_inj.1
    rw [toList_madeCells_one, natV_zeros]
  refine (callsIn_wide (n := 5)).1 ?_
  refine callsIn_of_wp_marks Tryz.func37 rfl trivial ?_ rfl
  simp only [Tryz.ntmps37, List.size_toArray, List.length_cons, List.length_nil, Nat.reduceAdd, Nat.reduceSub, Array.replicate_succ, Array.replicate_zero, List.push_toArray, List.append_toArray, List.nil_append, List.cons_append]
  gi_wp2
  refine ⟨trivial, ?_⟩
  refine (regs_in Fence.wide 4 trivial rfl _).mono ?_
  rintro e w' ⟨rfl, rfl⟩
  gi_wp2
  have h2 : St w ((((w.alloc (.cells #[.int .i64 (n : Int)] 3)).alloc (.cells (natV (List.replicate n 0)).toArray 5)).alloc (.cells #[.slice (some ⟨w.heap.size + 1, 0, none⟩) n n] 75)).alloc (.cells #[.int .i64 0] 3)) (sqRows w.heap.size n (seqL n []) 0) :=
    ((((St.start w).new (g := w.heap.size) rfl _ 3).new (g := w.heap.size + 1) (by simp) _ 5).new (g := w.heap.size + 1 + 1) (by simp) _ 75).new (g := w.heap.size + 1 + 1 + 1) (by simp) _ 3
  have hsz : ((((w.alloc (.cells #[.int .i64 (n : Int)] 3)).alloc (.cells (natV (List.replicate n 0)).toArray 5)).alloc (.cells #[.slice (some ⟨w.heap.size + 1, 0, none⟩) n n] 75)).alloc (.cells #[.int .i64 0] 3)).heap.size = w.heap.size + 4 := by simp
  generalize (((w.alloc (.cells #[.int .i64 (n : Int)] 3)).alloc (.cells (natV (List.replicate n 0)).toArray 5)).alloc (.cells #[.slice (some ⟨w.heap.size + 1, 0, none⟩) n n] 75)).alloc (.cells #[.int .i64 0] 3) = W2 at *
  refine range_lim rfl (by omega) (gf := 117) (lb := #[]) rfl trivial (enters_of Tryz.func117 (by kernel_rfl) rfl)
    (regs_lim Fence.wide 4 trivial rfl (by omega) (8 * n + 1) W2) (fun _ _ => trivial) (fun _ _ _ _ _ _ _ _ => trivial) (Below.refl _ _) (fun _ => rfl)
    (fun pre W => St w W (sqRows w.heap.size n (seqL n pre) pre.length) ∧ pre.length ≤ 8 * n)
    (fun c pre W => c = .exit 0 ∧ ∃ p x, pre = p ++ [x] ∧ p.length = 8 * n ∧ St w W (sqRows w.heap.size n (seqL n p) (8 * n))) ?hI ?hIx (fun pre W h => by have := h.2; omega) ⟨h2, Nat.zero_le _⟩
    (fun z => { tmps := #[.int .i64 (n : Int), .pointer (some ⟨w.heap.size, 0, none⟩), .slice none 0 0, .pointer (some ⟨w.heap.size + 1 + 1, 0, none⟩), .pointer (some ⟨w.heap.size + 1 + 1 + 1, 0, none⟩), .int .i64 (z.1 : Int), .int .i64 (n : Int), .slice (some ⟨w.heap.size + 1, 0, none⟩) n n, .func (.func 117) #[] #[], .int .i64 (z.1 : Int), undef, undef, undef, undef, undef, undef, undef, undef, undef, undef, undef, undef, undef, undef, undef, undef, undef, undef, undef, undef], defers := [] }) ?assign ?body ?stop
  case hI =>
    rintro pre A1 B1 row ⟨hm, hl⟩ hg hr
    exact ⟨hm.keep_own hg (fun r e => ⟨by have := (hr r e).1; omega, (hr r e).2⟩), hl⟩
  case hIx =>
    rintro c pre A1 B1 row ⟨hc, p, x, hp, hl, hm⟩ hg hr
    exact ⟨hc, p, x, hp, hl, hm.keep_own hg (fun r e => ⟨by have := (hr r e).1; omega, (hr r e).2⟩)⟩
  case assign =>
    intro l z W K hK
    dsimp only [encR]
    gi_wp2
    exact hK
  case body =>
    rintro l pre z W ⟨hm, hlen⟩
    obtain ⟨r, hr⟩ := z
    have hSN := seqL_snoc n pre ⟨r, hr⟩
    dsimp only at hSN
    obtain ⟨hql, hq8⟩ := seqL_len n pre
    have q3 := (hm.at (i := 0) rfl).cell
    have f3 := (hm.at (i := 0) rfl).frozen
    have q0 := (hm.at (i := 3) rfl).cell
    obtain ⟨k, hk⟩ : ∃ k, pre.length = k := ⟨_, rfl⟩
    have HK := Lib.hid hk
    have HSN := Lib.hid hSN
    rw [hk] at HSN hlen q3
    have HM : Hid (St w W (sqRows w.heap.size n (seqL n pre) k)) := Lib.hid (by rw [← hk]; exact hm)
    clear hSN hk hm
    by_cases hend : k = 8 * n
    · subst hend
      have hB : (((8 * n : Nat) : Int) == 8 * (n : Int)) = true := by rw [beq_iff_eq]; omega
      dsimp only
      gi_wp2
      exact ⟨KeepsFrom.refl _ _, rfl, pre, _, rfl, HK.out, HM.out⟩
    · have hB : ((k : Int) == 8 * (n : Int)) = false := by rw [beq_eq_false_iff_ne]; omega
      have hkI : (k : Int) < 8 * (n : Int) := by omega
      dsimp only
      gi_upto_region 6 with fail
      obtain ⟨q, hq⟩ : ∃ q, k / 8 = q := ⟨_, rfl⟩
      obtain ⟨m, hm8⟩ : ∃ m, k % 8 = m := ⟨_, rfl⟩
      obtain ⟨B, hBB⟩ : ∃ B, r % 2 = B := ⟨_, rfl⟩
      obtain ⟨out, hout⟩ : ∃ out, seqL n pre = out := ⟨_, rfl⟩
      rw [hq, hm8, hBB, hout] at HSN
      rw [hout] at HM hql hq8
      have hqn : q < n := by omega
      have hm7 : m < 8 := by omega
      have hB2 : B < 2 := by omega
      obtain ⟨O, hO⟩ : ∃ O, out[q]? = some O := ⟨out[q]'(by rw [hql]; exact hqn), List.getElem?_eq_getElem _⟩
      rw [hO, Option.getD_some] at HSN
      have hO8 := hq8.get hO
      have HC : Hid (∀ w', St w w' (sqRows w.heap.size n out k) → w'.cell? ⟨w.heap.size + 1, q, none⟩ = some (.int .u8 (O : Int))) := Lib.hid (fun w' h => by
        rw [(h.at (i := 2) rfl).cell, List.getElem?_toArray]
        exact natV_get hO)
      have t1 : (k : Int).tdiv 8 = (q : Int) := by rw [Int.tdiv_eq_ediv_of_nonneg (by omega)]; omega
      have t2 : (k : Int).tmod 8 = (m : Int) := by rw [Int.tmod_eq_emod_of_nonneg (by omega)]; omega
      have t3 : IntKind.i64.wrap (q : Int) = (q : Int) := IntWalk.i64_in _ (by omega)
      have t4 : IntKind.i64.wrap (m : Int) = (m : Int) := IntWalk.i64_in _ (by omega)
      have t5 : bits .and .i64 (r : Int) 1 = (B : Int) := by rw [i64_and1 (by omega), hBB]
      have t6 : IntKind.u8.wrap (B : Int) = (B : Int) := IntWalk.u8_in _ (by omega)
      have hq0 : (0 : Int) ≤ (q : Int) := by omega
      have hqI : (q : Int) < (n : Int) := by omega
      clear hq hm8 hBB hout hO q3 f3 q0
      refine wpIn_Z_of (S := fun w' => St w w' (sqRows w.heap.size n out k)) 13 (by kernel_rfl) (by kernel_rfl) (by rintro ⟨a, w, h⟩; exact h) HM.out.drew (fun hHeld => ?_)
      refine wpAnyZ_take (i := 0) (oi := ?o1) (v := ?v1) ?hi1 (by kernel_rfl) (by kernel_rfl) (by kernel_rfl) (by kernel_rfl) ?hq1 ?hy1 (by assumption) ?hr1
      case hi1 => (simp only [List.getElem?_toArray, List.getElem?_cons_zero]; rfl)
      case hy1 => ((refine .inl ⟨by rfl, ?_⟩); intro w hS; have qb := (hS.at (i := 1) rfl).cell; go_simp; (try with_reducible rfl))
      case hq1 => exact fun _ _ _ h => h
      (try simp only [Act.put, List.setIfInBounds_toArray, List.set_cons_zero, List.set_cons_succ])
      refine wpAnyZ_take (i := 1) (oi := ?o2) (v := ?v2) ?hi2 (by kernel_rfl) (by kernel_rfl) (by kernel_rfl) (by kernel_rfl) ?hq2 ?hy2 (by assumption) ?hr2
      case hi2 => (simp only [List.getElem?_toArray, List.getElem?_cons_succ, List.getElem?_cons_zero]; rfl)
      case hy2 => ((refine .inl ⟨by rfl, ?_⟩); intro w hS; have qa := (hS.at (i := 0) rfl).cell; go_simp; (try with_reducible rfl))
      case hq2 => exact fun _ _ _ h => h
      (try simp only [Act.put, List.setIfInBounds_toArray, List.set_cons_zero, List.set_cons_succ])
      refine wpAnyZ_take (i := 2) (oi := ?o3) (v := ?v3) ?hi3 (by kernel_rfl) (by kernel_rfl) (by kernel_rfl) (by kernel_rfl) ?hq3 ?hy3 (by assumption) ?hr3
      case hi3 => (simp only [List.getElem?_toArray, List.getElem?_cons_succ, List.getElem?_cons_zero]; rfl)
      case hy3 => ((refine .inl ⟨by rfl, ?_⟩); intro w hS; go_simp; (try with_reducible rfl))
      case hq3 => exact fun _ _ _ h => h
      (try simp only [Act.put, List.setIfInBounds_toArray, List.set_cons_zero, List.set_cons_succ])
      refine wpAnyZ_take (i := 3) (oi := ?o4) (v := ?v4) ?hi4 (by kernel_rfl) (by kernel_rfl) (by kernel_rfl) (by kernel_rfl) ?hq4 ?hy4 (by assumption) ?hr4
      case hi4 => (simp only [List.getElem?_toArray, List.getElem?_cons_succ, List.getElem?_cons_zero]; rfl)
      case hy4 => ((refine .inl ⟨by rfl, ?_⟩); intro w hS; go_simp; (try with_reducible rfl))
      case hq4 => exact fun _ _ _ h => h
      (try simp only [Act.put, List.setIfInBounds_toArray, List.set_cons_zero, List.set_cons_succ])
      refine wpAnyZ_take (i := 4) (oi := ?o5) (v := ?v5) ?hi5 (by kernel_rfl) (by kernel_rfl) (by kernel_rfl) (by kernel_rfl) ?hq5 ?hy5 (by assumption) ?hr5
      case hi5 => (simp only [List.getElem?_toArray, List.getElem?_cons_succ, List.getElem?_cons_zero]; rfl)
      case hy5 => ((refine .inl ⟨by rfl, ?_⟩); intro w hS; have qc := HC.out _ hS; go_simp; (try with_reducible rfl))
      case hq5 => exact fun _ _ _ h => h
      (try simp only [Act.put, List.setIfInBounds_toArray, List.set_cons_zero, List.set_cons_succ])
      refine wpAnyZ_take (i := 5) (oi := ?o6) (v := ?v6) ?hi6 (by kernel_rfl) (by kernel_rfl) (by kernel_rfl) (by kernel_rfl) ?hq6 ?hy6 (by assumption) ?hr6
      case hi6 => (simp only [List.getElem?_toArray, List.getElem?_cons_succ, List.getElem?_cons_zero]; rfl)
      case hy6 => ((refine .inl ⟨by rfl, ?_⟩); intro w hS; go_simp; (try with_reducible rfl))
      case hq6 => exact fun _ _ _ h => h
      (try simp only [Act.put, List.setIfInBounds_toArray, List.set_cons_zero, List.set_cons_succ])
      refine wpAnyZ_take (i := 6) (oi := ?o7) (v := ?v7) ?hi7 (by kernel_rfl) (by kernel_rfl) (by kernel_rfl) (by kernel_rfl) ?hq7 ?hy7 (by assumption) ?hr7
      case hi7 => (simp only [List.getElem?_toArray, List.getElem?_cons_succ, List.getElem?_cons_zero]; rfl)
      case hy7 => ((refine .inl ⟨by rfl, ?_⟩); intro w hS; go_simp; (try with_reducible rfl))
      case hq7 => exact fun _ _ _ h => h
      (try simp only [Act.put, List.setIfInBounds_toArray, List.set_cons_zero, List.set_cons_succ])
      refine wpAnyZ_take (i := 7) (oi := ?o8) (v := ?v8) ?hi8 (by kernel_rfl) (by kernel_rfl) (by kernel_rfl) (by kernel_rfl) ?hq8 ?hy8 (by assumption) ?hr8
      case hi8 => (simp only [List.getElem?_toArray, List.getElem?_cons_succ, List.getElem?_cons_zero]; rfl)
      case hy8 => ((refine .inl ⟨by rfl, ?_⟩); intro w hS; go_simp; (try with_reducible rfl))
      case hq8 => exact fun _ _ _ h => h
      (try simp only [Act.put, List.setIfInBounds_toArray, List.set_cons_zero, List.set_cons_succ])
      refine wpAnyZ_take (i := 8) (oi := ?o9) (v := ?v9) ?hi9 (by kernel_rfl) (by kernel_rfl) (by kernel_rfl) (by kernel_rfl) ?hq9 ?hy9 (by assumption) ?hr9
      case hi9 => (simp only [List.getElem?_toArray, List.getElem?_cons_succ, List.getElem?_cons_zero]; rfl)
      case hy9 => ((refine .inl ⟨by rfl, ?_⟩); intro w hS; have qa := (hS.at (i := 0) rfl).cell; go_simp; (try with_reducible rfl))
      case hq9 => exact fun _ _ _ h => h
      (try simp only [Act.put, List.setIfInBounds_toArray, List.set_cons_zero, List.set_cons_succ])
      refine wpAnyZ_take (i := 9) (oi := ?o10) (v := ?v10) ?hi10 (by kernel_rfl) (by kernel_rfl) (by kernel_rfl) (by kernel_rfl) ?hq10 ?hy10 (by assumption) ?hr10
      case hi10 => (simp only [List.getElem?_toArray, List.getElem?_cons_succ, List.getElem?_cons_zero]; rfl)
      case hy10 => ((refine .inl ⟨by rfl, ?_⟩); intro w hS; go_simp; (try with_reducible rfl))
      case hq10 => exact fun _ _ _ h => h
      (try simp only [Act.put, List.setIfInBounds_toArray, List.set_cons_zero, List.set_cons_succ])
      refine wpAnyZ_take (i := 10) (oi := ?o11) (v := ?v11) ?hi11 (by kernel_rfl) (by kernel_rfl) (by kernel_rfl) (by kernel_rfl) ?hq11 ?hy11 (by assumption) ?hr11
      case hi11 => (simp only [List.getElem?_toArray, List.getElem?_cons_succ, List.getElem?_cons_zero]; rfl)
      case hy11 => ((refine .inl ⟨by rfl, ?_⟩); intro w hS; go_simp; (try with_reducible rfl))
      case hq11 => exact fun _ _ _ h => h
      (try simp only [Act.put, List.setIfInBounds_toArray, List.set_cons_zero, List.set_cons_succ])
      refine wpAnyZ_take (i := 11) (oi := ?o12) (v := ?v12) ?hi12 (by kernel_rfl) (by kernel_rfl) (by kernel_rfl) (by kernel_rfl) ?hq12 ?hy12 (by assumption) ?hr12
      case hi12 => (simp only [List.getElem?_toArray, List.getElem?_cons_succ, List.getElem?_cons_zero]; rfl)
      case hy12 => ((refine .inl ⟨by rfl, ?_⟩); intro w hS; go_simp; (try with_reducible rfl))
      case hq12 => exact fun _ _ _ h => h
      (try simp only [Act.put, List.setIfInBounds_toArray, List.set_cons_zero, List.set_cons_succ])
      refine wpAnyZ_take (i := 12) (oi := ?o13) (v := ?v13) ?hi13 (by kernel_rfl) (by kernel_rfl) (by kernel_rfl) (by kernel_rfl) ?hq13 ?hy13 (by assumption) ?hr13
      case hi13 => (simp only [List.getElem?_toArray, List.getElem?_cons_succ, List.getElem?_cons_zero]; rfl)
      case hy13 => ((refine .inl ⟨by rfl, ?_⟩); intro w hS; go_simp; (try with_reducible rfl))
      case hq13 => exact fun _ _ _ h => h
      (try simp only [Act.put, List.setIfInBounds_toArray, List.set_cons_zero, List.set_cons_succ])
      refine wpAnyZ_last (by kernel_rfl) rfl (fun K hK => ?_)
      have qg := HC.out _ hHeld; have qf := (hHeld.at (i := 2) rfl).frozen q; have HH := Lib.hid hHeld; go_simp
      refine hK.out _ _ ?_
      clear hK K
      (try simp only [Act.put])
      refine wpAnyZ_done (by kernel_rfl) ?_ _
      have HV : Hid (bits .or .u8 (O : Int) (IntKind.u8.wrap ((B : Int) * 2 ^ m)) = ((O ||| (B * 2 ^ m) : Nat) : Int)) := Lib.hid (by
        have h7 : 2 ^ m ≤ 2 ^ 7 := Nat.pow_le_pow_right (by decide) (by omega)
        have hlt : B * 2 ^ m < 256 := Nat.lt_of_le_of_lt (Nat.mul_le_mul (show B ≤ 1 by omega) h7) (by decide)
        have e : (B : Int) * 2 ^ m = ((B * 2 ^ m : Nat) : Int) := by rw [Int.natCast_mul, Int.natCast_pow]; rfl
        rw [e, IntWalk.u8_in _ (by omega)]
        exact u8_or_nat O (B * 2 ^ m) hO8 hlt)
      rw [HV.out]
      have hst := (HM.out.set 2 rfl q (.int .u8 ((O ||| (B * 2 ^ m) : Nat) : Int))).drew
      have hrr : (natV out).toArray.setIfInBounds q (.int .u8 ((O ||| (B * 2 ^ m) : Nat) : Int)) = (natV (seqL n (pre ++ [⟨r, hr⟩]))).toArray := by
        rw [HSN.out, ← natV_set]
        exact List.setIfInBounds_toArray _ _ _
      have HST : Hid (St w (World.drew (W.setCell ⟨w.heap.size + 1, q, none⟩ (.int .u8 ((O ||| (B * 2 ^ m) : Nat) : Int)))) (sqRows w.heap.size n (seqL n (pre ++ [⟨r, hr⟩])) k)) := Lib.hid (by
        unfold sqRows at hst ⊢
        rw [← hrr]
        exact hst)
      have HKF : Hid (KeepsFrom W2.heap.size W (World.drew (W.setCell ⟨w.heap.size + 1, q, none⟩ (.int .u8 ((O ||| (B * 2 ^ m) : Nat) : Int))))) := Lib.hid (have t := KeepsOthers.setCell W ⟨w.heap.size + 1, q, none⟩ (.int .u8 ((O ||| (B * 2 ^ m) : Nat) : Int)); ⟨t.size, fun k o _ hk ho => t.same k o hk ho⟩)
      generalize World.drew (W.setCell ⟨w.heap.size + 1, q, none⟩ (.int .u8 ((O ||| (B * 2 ^ m) : Nat) : Int))) = W5 at *
      have q5 := (HST.out.at (i := 0) rfl).cell
      have f5 := (HST.out.at (i := 0) rfl).frozen
      clear hst hrr
      gi_wp2
      have hs6 := HST.out.set 0 rfl 0 (.int .i64 ((k : Int) + 1))
      refine ⟨HKF.out.trans ((KeepsOthers.setCell _ _ _).from _), trivial, ?_, by rw [List.length_append, HK.out]; show k + 1 ≤ 8 * n; omega⟩
      rw [List.length_append, HK.out, show [(⟨r, hr⟩ : RgG)].length = 1 from rfl]
      exact hs6
  case stop =>
    rintro D c pre W hD hpre ⟨rfl, p, x, rfl, hl, hm⟩ hK
    have hp := regs_pre hpre hl
    subst hp
    have q2 := (hm.at (i := 1) rfl).cell
    gi_wp2
    refine ⟨by simp, .inl ⟨_, _, rfl, run_takeDeferred hK, ?_⟩⟩
    refine ⟨_, results_tmp rfl _ _ _, w.heap.size + 1, by omega, rfl, ?_⟩
    have hb := (grownBy_putObj' W D (.deferred none))
    have hbel := hm.bel.grown hb hm.bel.size (fun k e => by cases e; omega)
    have hkeep : ∀ b, b = w.heap.size + 1 → (W.putObj D (.deferred none)).heap[b]? = W.heap[b]? := fun b hb' => World.putObj_heap_other (by omega)
    have hrow : RowAt (W.putObj D (.deferred none)) (w.heap.size + 1) 5 (natV (seqL n (regs (8 * n)))).toArray := (hkeep _ rfl).trans (hm.at (i := 2) rfl)
    refine ⟨?_, ?_⟩
    · exact hrow
    · exact hbel
end Go.Proofs.YtlnjphggfbiabaaGreat

/-
  scrambler: Scramble.
-/
namespace Go.Proofs.YtlnjphggfbiabaaGreat
open Go.RowKit
set_option linter.unusedVariables false

def scrK (d key : List Nat) : Nat → List Nat
  | 0 => d
  | i + 1 => (scrK d key i).set (12 + i) (((scrK d key i)[12 + i]?.getD 0) ^^^ (key[i]?.getD 0))
def scrN (d : List Nat) : List Nat := scrK d (seqN 2340) 2340
theorem scrK_length (d key : List Nat) : ∀ i, (scrK d key i).length = d.length
  | 0 => rfl
  | i + 1 => by rw [scrK, List.length_set, scrK_length]
theorem scrK_b8 {d key : List Nat} (h : B8 d) (hk : B8 key) : ∀ i, B8 (scrK d key i)
  | 0 => h
  | i + 1 => (scrK_b8 h hk i).set (Nat.xor_lt_two_pow (n := 8) ((scrK_b8 h hk i).getD _) (hk.getD _)) _
theorem seqN_len (n : Nat) : (seqN n).length = n ∧ B8 (seqN n) := seqL_len n _
set_option maxRecDepth 100000 in
set_option maxHeartbeats 4000000 in
theorem scramble_any (s : ByteArray) (w : World) (hs : s.size = 2352) :
    Calls Tryz.prog 15 #[.string s] w fun e w' => e = .returned (.tuple #[.string (natS (scrN (sN s))), .int .i64 0]) ∧ Below w.heap.size w w' := by
  have hsI : (s.size : Int) = 2352 := by omega
  have hcv := run_bytes_of_string (P := Tryz.prog) w 9 75 5 s Tryz.underlying9 Tryz.underlying75 Tryz.underlying5
  rw [hs] at hcv
  generalize grownCap w 2352 0 5 = cap at *
  have hbn : Below w.heap.size w (World.drew (w.alloc (.cells (bytesRow s cap) 5 ((bytesRow s cap).size, (bytesRow s cap).size + 1)))) := ((Below.refl _ _).alloc (Nat.le_refl _) _).drew
  have hby : BytesAt (World.drew (w.alloc (.cells (bytesRow s cap) 5 ((bytesRow s cap).size, (bytesRow s cap).size + 1)))) w.heap.size 5 s.data.toList := BytesAt.drew (BytesAt.new w 5 s cap)
  rw [← ofL_sN] at hby
  have HBN := Lib.hid hbn
  have HBY := Lib.hid hby
  have CS := Lib.hid (fun w' => sequence_any 2340 w' (by omega) (by omega))
  have hdl : (sN s).length = 2352 := by rw [sN_length, hs]
  have hd8 := sN_b8 s
  obtain ⟨hkl, hk8⟩ := seqN_len 2340
  have HR : Hid (scrN (sN s) = scrK (sN s) (seqN 2340) 2340) := Lib.hid rfl
  rw [HR.out]
  generalize seqN 2340 = key at *
  have HKL := Lib.hid hkl
  have HL : Hid (∀ i, (scrK (sN s) key i).length = 2352) := Lib.hid (fun i => by rw [scrK_length, hdl])
  have H8 : Hid (∀ i, B8 (scrK (sN s) key i)) := Lib.hid (fun i => scrK_b8 hd8 hk8 i)
  clear hbn hby HR hdl hkl hs
  go_enter Tryz.func15, Tryz.ntmps15
  go_wp2_with fail
  refine (CS.out _).mono ?_
  rintro e w1 ⟨g1, hg1, rfl, hr1, hb1⟩
  have HB1 := Lib.hid (HBN.out.trans (hb1.mono HBN.out.size))
  have HBY1 := Lib.hid (HBY.out.below hb1 HBY.out.lt)
  have hne : g1 ≠ w.heap.size := by
    have : w.heap.size + 1 ≤ g1 := Nat.le_trans (by show w.heap.size + 1 ≤ (w.alloc _).heap.size; simp) hg1
    omega
  have HR1 := Lib.hid hr1
  clear hb1 hr1 HBN HBY hcv CS hg1
  go_wp2_with fail
  go_loopw [13] (fun i wr => ∃ k : Nat, k ≤ 2340 ∧ i = .int .i64 k ∧ BytesAt wr w.heap.size 5 (ofL (scrK (sN s) key k)) ∧ RowAt wr g1 5 (natV key).toArray ∧ Below w.heap.size w wr) (fun i _ => 2340 - (intOf i).toNat)
  case atStart => exact ⟨0, by omega, rfl, HBY1.out, HR1.out, HB1.out⟩
  case round =>
    clear HBY1 HR1 HB1
    obtain ⟨k, hk, rfl, hby, hr, hbel⟩ := hrel
    by_cases hlt : k < 2340
    · obtain ⟨y, hy⟩ : ∃ y, key[k]? = some y := ⟨key[k]'(by rw [HKL.out]; exact hlt), List.getElem?_eq_getElem _⟩
      obtain ⟨O, hO⟩ : ∃ O, (scrK (sN s) key k)[12 + k]? = some O := ⟨_, List.getElem?_eq_getElem (by rw [HL.out]; omega)⟩
      have hO8 := (H8.out k).get hO
      have hy8 := hk8.get hy
      have HK : Hid (scrK (sN s) key (k + 1) = (scrK (sN s) key k).set (12 + k) (O ^^^ y)) := Lib.hid (by rw [scrK, hO, hy]; rfl)
      have HC : Hid (∀ w', Below wr.heap.size wr w' → w'.cell? ⟨w.heap.size, 12 + k, none⟩ = some (.int .u8 (O : Int)) ∧ w'.frozen? ⟨w.heap.size, 12 + k, none⟩ = false ∧ w'.cell? ⟨g1, k, none⟩ = some (.int .u8 (y : Int))) := Lib.hid (fun w' hb => ⟨bytes_cell (hby.below hb hby.lt) (H8.out k) hO, (hby.below hb hby.lt).frozen _ (by unfold ofL; rw [List.length_map, HL.out]; omega), by rw [(hr.below hb hr.lt).cell, List.getElem?_toArray]; exact natV_get hy⟩)
      have hX := u8_xor_nat O y hO8 hy8
      have hxx : O ^^^ y < 256 := Nat.xor_lt_two_pow (n := 8) hO8 hy8
      have hltI : (k : Int) < 2340 := by omega
      have h0k : (0 : Int) ≤ (k : Int) := by omega
      have e1 : IntKind.i64.wrap (12 + (k : Int)) = 12 + (k : Int) := IntWalk.i64_in _ (by omega)
      have e2 : (12 + (k : Int)).toNat = 12 + k := by omega
      have e3 : (0 : Int) ≤ 12 + (k : Int) := by omega
      have e4 : 12 + (k : Int) < 2352 := by omega
      have HBY2 := Lib.hid hby
      have HR2 := Lib.hid hr
      have HB2 := Lib.hid hbel
      clear hy hO hby hr hbel
      go_upto_region 8 with fail
      refine wp_region_any (by kernel_rfl) (wpAny_of_Z (S := fun w' => Below wr.heap.size wr w') (z := 11) _ _ _ _ ?_)
      have hHeld : Below wr.heap.size wr (World.drew wr) := (Below.refl _ _).drew
      change wpAnyZ _ _ _ _ _ _ _ _ _ (World.drew _)
      refine wpAnyZ_take (i := 0) (oi := ?o14) (v := ?v14) ?hi14 (by kernel_rfl) (by kernel_rfl) (by kernel_rfl) (by kernel_rfl) ?hq14 ?hy14 (by assumption) ?hr14
      case hi14 => (simp only [List.getElem?_toArray, List.getElem?_cons_zero]; rfl)
      case hy14 => ((refine .inl ⟨by rfl, ?_⟩); intro w hS; go_simp; (try with_reducible rfl))
      case hq14 => exact fun _ _ _ h => h
      (try simp only [Act.put, List.setIfInBounds_toArray, List.set_cons_zero, List.set_cons_succ])
      refine wpAnyZ_take (i := 1) (oi := ?o15) (v := ?v15) ?hi15 (by kernel_rfl) (by kernel_rfl) (by kernel_rfl) (by kernel_rfl) ?hq15 ?hy15 (by assumption) ?hr15
      case hi15 => (simp only [List.getElem?_toArray, List.getElem?_cons_succ, List.getElem?_cons_zero]; rfl)
      case hy15 => ((refine .inl ⟨by rfl, ?_⟩); intro w hS; go_simp; (try with_reducible rfl))
      case hq15 => exact fun _ _ _ h => h
      (try simp only [Act.put, List.setIfInBounds_toArray, List.set_cons_zero, List.set_cons_succ])
      refine wpAnyZ_take (i := 2) (oi := ?o16) (v := ?v16) ?hi16 (by kernel_rfl) (by kernel_rfl) (by kernel_rfl) (by kernel_rfl) ?hq16 ?hy16 (by assumption) ?hr16
      case hi16 => (simp only [List.getElem?_toArray, List.getElem?_cons_succ, List.getElem?_cons_zero]; rfl)
      case hy16 => ((refine .inl ⟨by rfl, ?_⟩); intro w hS; go_simp; (try with_reducible rfl))
      case hq16 => exact fun _ _ _ h => h
      (try simp only [Act.put, List.setIfInBounds_toArray, List.set_cons_zero, List.set_cons_succ])
      refine wpAnyZ_take (i := 3) (oi := ?o17) (v := ?v17) ?hi17 (by kernel_rfl) (by kernel_rfl) (by kernel_rfl) (by kernel_rfl) ?hq17 ?hy17 (by assumption) ?hr17
      case hi17 => (simp only [List.getElem?_toArray, List.getElem?_cons_succ, List.getElem?_cons_zero]; rfl)
      case hy17 => ((refine .inl ⟨by rfl, ?_⟩); intro w hS; go_simp; (try with_reducible rfl))
      case hq17 => exact fun _ _ _ h => h
      (try simp only [Act.put, List.setIfInBounds_toArray, List.set_cons_zero, List.set_cons_succ])
      refine wpAnyZ_take (i := 4) (oi := ?o18) (v := ?v18) ?hi18 (by kernel_rfl) (by kernel_rfl) (by kernel_rfl) (by kernel_rfl) ?hq18 ?hy18 (by assumption) ?hr18
      case hi18 => (simp only [List.getElem?_toArray, List.getElem?_cons_succ, List.getElem?_cons_zero]; rfl)
      case hy18 => ((refine .inl ⟨by rfl, ?_⟩); intro w hS; have qc := HC.out _ hS; have qc1 := qc.1; have qc3 := qc.2.2; go_simp; (try with_reducible rfl))
      case hq18 => exact fun _ _ _ h => h
      (try simp only [Act.put, List.setIfInBounds_toArray, List.set_cons_zero, List.set_cons_succ])
      refine wpAnyZ_take (i := 5) (oi := ?o19) (v := ?v19) ?hi19 (by kernel_rfl) (by kernel_rfl) (by kernel_rfl) (by kernel_rfl) ?hq19 ?hy19 (by assumption) ?hr19
      case hi19 => (simp only [List.getElem?_toArray, List.getElem?_cons_succ, List.getElem?_cons_zero]; rfl)
      case hy19 => ((refine .inl ⟨by rfl, ?_⟩); intro w hS; go_simp; (try with_reducible rfl))
      case hq19 => exact fun _ _ _ h => h
      (try simp only [Act.put, List.setIfInBounds_toArray, List.set_cons_zero, List.set_cons_succ])
      refine wpAnyZ_take (i := 6) (oi := ?o20) (v := ?v20) ?hi20 (by kernel_rfl) (by kernel_rfl) (by kernel_rfl) (by kernel_rfl) ?hq20 ?hy20 (by assumption) ?hr20
      case hi20 => (simp only [List.getElem?_toArray, List.getElem?_cons_succ, List.getElem?_cons_zero]; rfl)
      case hy20 => ((refine .inl ⟨by rfl, ?_⟩); intro w hS; go_simp; (try with_reducible rfl))
      case hq20 => exact fun _ _ _ h => h
      (try simp only [Act.put, List.setIfInBounds_toArray, List.set_cons_zero, List.set_cons_succ])
      refine wpAnyZ_take (i := 7) (oi := ?o21) (v := ?v21) ?hi21 (by kernel_rfl) (by kernel_rfl) (by kernel_rfl) (by kernel_rfl) ?hq21 ?hy21 (by assumption) ?hr21
      case hi21 => (simp only [List.getElem?_toArray, List.getElem?_cons_succ, List.getElem?_cons_zero]; rfl)
      case hy21 => ((refine .inl ⟨by rfl, ?_⟩); intro w hS; go_simp; (try with_reducible rfl))
      case hq21 => exact fun _ _ _ h => h
      (try simp only [Act.put, List.setIfInBounds_toArray, List.set_cons_zero, List.set_cons_succ])
      refine wpAnyZ_take (i := 8) (oi := ?o22) (v := ?v22) ?hi22 (by kernel_rfl) (by kernel_rfl) (by kernel_rfl) (by kernel_rfl) ?hq22 ?hy22 (by assumption) ?hr22
      case hi22 => (simp only [List.getElem?_toArray, List.getElem?_cons_succ, List.getElem?_cons_zero]; rfl)
      case hy22 => ((refine .inl ⟨by rfl, ?_⟩); intro w hS; have qc := HC.out _ hS; have qc1 := qc.1; have qc3 := qc.2.2; go_simp; (try with_reducible rfl))
      case hq22 => exact fun _ _ _ h => h
      (try simp only [Act.put, List.setIfInBounds_toArray, List.set_cons_zero, List.set_cons_succ])
      refine wpAnyZ_take (i := 9) (oi := ?o23) (v := ?v23) ?hi23 (by kernel_rfl) (by kernel_rfl) (by kernel_rfl) (by kernel_rfl) ?hq23 ?hy23 (by assumption) ?hr23
      case hi23 => (simp only [List.getElem?_toArray, List.getElem?_cons_succ, List.getElem?_cons_zero]; rfl)
      case hy23 => ((refine .inl ⟨by rfl, ?_⟩); intro w hS; go_simp; (try with_reducible rfl))
      case hq23 => exact fun _ _ _ h => h
      (try simp only [Act.put, List.setIfInBounds_toArray, List.set_cons_zero, List.set_cons_succ])
      refine wpAnyZ_take (i := 10) (oi := ?o24) (v := ?v24) ?hi24 (by kernel_rfl) (by kernel_rfl) (by kernel_rfl) (by kernel_rfl) ?hq24 ?hy24 (by assumption) ?hr24
      case hi24 => (simp only [List.getElem?_toArray, List.getElem?_cons_succ, List.getElem?_cons_zero]; rfl)
      case hy24 => ((refine .inl ⟨by rfl, ?_⟩); intro w hS; go_simp; (try with_reducible rfl))
      case hq24 => exact fun _ _ _ h => h
      (try simp only [Act.put, List.setIfInBounds_toArray, List.set_cons_zero, List.set_cons_succ])
      refine wpAnyZ_last (by kernel_rfl) rfl (fun K hK => ?_)
      have qc := HC.out _ hHeld; have qc1 := qc.1; have qc2 := qc.2.1; have qc3 := qc.2.2; go_simp
      refine hK.out _ _ ?_
      clear hK K
      (try simp only [Act.put])
      refine wpAnyZ_done (by kernel_rfl) ?_ _
      go_wp2_with fail
      go_roundw
      case rel => first | exact ⟨k + 1, by omega, by go_num, by rw [HK.out]; exact bytes_set (HBY2.out.drew) _ _ hxx, HR2.out.far (p := ⟨w.heap.size, 12 + k, none⟩) hne _, HB2.out.drew.setCell (p := ⟨w.heap.size, 12 + k, none⟩) (Nat.le_refl _) _⟩ | ((repeat apply Exists.intro); exact ⟨⟨k + 1, by omega, by simp, by rw [HK.out]; exact bytes_set (HBY2.out.drew) _ _ hxx, HR2.out.far (p := ⟨w.heap.size, 12 + k, none⟩) hne _, HB2.out.drew.setCell (p := ⟨w.heap.size, 12 + k, none⟩) (Nat.le_refl _) _⟩, rfl⟩)
      case measure => simp [intOf]; omega
    · obtain rfl : k = 2340 := by omega
      have hcs := fun cap' => hby.string (P := Tryz.prog) 75 9 Tryz.underlying75 Tryz.underlying5 Tryz.underlying9 cap'
      have HLN : Hid ((ofL (scrK (sN s) key 2340)).length = 2352) := Lib.hid (by unfold ofL; rw [List.length_map, HL.out])
      rw [HLN.out] at hcs
      go_wp2_with fail
      go_ret2
      exact ⟨rfl, hbel⟩
end Go.Proofs.YtlnjphggfbiabaaGreat
