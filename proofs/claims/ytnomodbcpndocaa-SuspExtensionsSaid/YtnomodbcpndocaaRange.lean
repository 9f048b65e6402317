/-
  A loop over an iterator that writes cells of its own between two rounds, and whose body always goes on: the iterator's state is a parameter of what holds between the rounds.
-/
import Derived.Test.YtnomodbcpndocaaOwnK
import Derived.RangeFuncNested
namespace Go.Proofs.Ytnomodbcpndocaa
open Go.RowKit
set_option linter.unusedVariables false

theorem KeepsOthers.of_own {w w' : World} {base e size n : Nat} {v : Value} {xs : List Value} (h : w.ownsRow base e size v n xs) (hg : w.grownBy w' v.ownBlock) : KeepsOthers w w' :=
  KeepsOthers.of_grownBy hg fun j o hj ho => own_cells h j o hj ho
theorem KeepsOthers.of_below {w w' : World} (hb : Below w.heap.size w w') : KeepsOthers w w' := kept_below hb

section
variable {F : Fence} {n : Nat} {P : Program} {α β : Type}
/-- The body goes on, always. -/
def goesOn (R : World → Prop) : Exit → Act → World → Prop
  | .normal, _, W => R W
  | .ret, _, _ => False
  | .exit _, _, _ => False
  | .goto _, _, _ => False
  | .panic _, _, _ => False
  | .outgrown, _, _ => False
/-- What the iterator owes: from the start on, each yield being taken as a round, it ends with S. -/
def SeqOwn (F : Fence) (n : Nat) (P : Program) (g : Nat) (lb : Array Value) (encs : α → Array Value) (I : β → List α → World → Prop) (Px : List α → α → World → Prop) (σ0 : β) (S : β → List α → Prop) : Prop :=
  ∀ (l : Nat) (X : World → Prop) (W : World), (∀ A B, X A → KeepsOthers A B → X B) →
    (∀ σ pre x W1, I σ pre W1 → Px pre x W1 → X W1 → YieldAt F (n - 1) P l (encs x) W1 fun e W' => e = .returned (.bool true) ∧ I σ (pre ++ [x]) W' ∧ X W') →
    I σ0 [] W → X W →
    CallsIn F n P g (#[.func (.yield l) #[] #[]] ++ lb) W fun e W' => (∃ v, e = .returned v) ∧ ∃ σ xs, S σ xs ∧ I σ xs W' ∧ X W'

theorem range_own {g : Operand} {ps : Array Tmp} {assign body : Code} {Q : Exit → Act → World → Prop} {a : Act} {w : World}
    (hro : F.round = none) (h1 : 1 ≤ n) {gf : Nat} {lb : Array Value} (hg : a.eval g = .func (.func gf) #[] lb) (hFg : F.fn gf) (eg : ∀ args w, (callFunc gf args).run P w = .ok (.enter gf args) w)
    {encs : α → Array Value} (hps : ∀ x, (encs x).size = ps.size) {I : β → List α → World → Prop} {Px : List α → α → World → Prop} {σ0 : β} {S : β → List α → Prop}
    (hseq : SeqOwn F (n - 1) P gf lb encs I Px σ0 S) (hI : ∀ σ, OwnFrom w.heap.size (I σ)) (hP : ∀ pre, OwnFrom w.heap.size (Px pre)) (h0 : I σ0 [] w) (a₁ : α → Act)
    (hassign : ∀ (l : Nat) (x : α) (W : World) (K : Act → World → Prop), K (a₁ x) W →
      assign.wpIn (F.inRound l) (n - 1 - 1) P (Exit.then K (fun _ _ _ => False)) { tmps := (ps.zip (encs x)).foldl (fun t (p, v) => t.setIfInBounds p v) a.tmps, defers := [] } W)
    (hbody : ∀ (l : Nat) (σ : β) (pre : List α) (x : α) (W : World), I σ pre W → Px pre x W → body.wpIn (F.inRound l) (n - 1 - 1) P (goesOn fun W' => KeepsOthers W W' ∧ I σ (pre ++ [x]) W') (a₁ x) W)
    (hdone : ∀ (D : Nat) (σ : β) (xs : List α) (W : World), w.heap.size ≤ D → S σ xs → I σ xs W → W.heap[D]? = some (.deferred (some [])) → Q .normal { a with defers := { target := .collected D, args := #[] } :: a.defers } W) :
    (Code.rangeFunc g ps assign body).wpIn F n P Q a w := by
  refine wpIn_rangeFunc fun fn hfn => ?_
  rw [hro]
  let D := w.heap.size
  let rec0 : LoopState → Loop := fun st => { state := st, pending := none, fn, tmps := a.tmps, params := ps, assign, body, defers := D }
  let W0 := (w.alloc (.deferred (some []))).alloc (.loop (rec0 .ready))
  have hD : D = w.heap.size := rfl
  have hL : W0.heap[D + 1]? = some (.loop (rec0 .ready)) := by
    have := World.alloc_heap_new (w.alloc (.deferred (some []))) (.loop (rec0 .ready))
    rwa [World.size_alloc] at this
  have hK : W0.heap[D]? = some (.deferred (some [])) := (Below.heap_alloc _ _ _ (by simp [D])).trans (World.alloc_heap_new w _)
  have hI0 : I σ0 [] W0 := (hI σ0).alloc _ ((hI σ0).alloc _ h0)
  -- what the rounds keep of the loop's two blocks
  let X : World → Prop := fun W => W.heap[D + 1]? = some (.loop (rec0 .ready)) ∧ W.heap[D]? = some (.deferred (some []))
  have hX : ∀ A B, X A → KeepsOthers A B → X B := fun A B h k => ⟨k.same _ _ h.1 rfl, k.same _ _ h.2 rfl⟩
  refine ⟨D + 1, [{ target := .collected D, args := #[] }], W0, { target := .fn (.func gf) lb, args := #[.func (.yield (D + 1)) #[] #[]] }, W0, gf, #[.func (.yield (D + 1)) #[] #[]] ++ lb, W0, run_enterLoop_outer _ _ _ _ _, ?_, ?_, ?_, fun _ => h1, ?_⟩
  · simp only [resolve, hg]
    simp [go_sem]
  · intro f' hf'
    simp [Target.leads] at hf'
    subst hf'
    exact hFg
  · simp [invoke, go_sem, eg]
  · refine (hseq (D + 1) X W0 hX ?_ hI0 ⟨hL, hK⟩).mono ?_
    · rintro σ pre x W hi hx ⟨hl, hk⟩
      refine ⟨fn, _, assign, body, run_yield (P := P) (args := encs x) hl (hps x), roundIn_of_wpIn hfn (hassign _ x W _ ?_)⟩
      refine ⟨_, run_beginRound hl rfl, ?_⟩
      have hlt : D + 1 < W.heap.size := (Array.getElem?_eq_some_iff.1 hl).1
      have hl2 : (W.putObj (D + 1) (.loop { rec0 .ready with state := .busy })).heap[D + 1]? = some (.loop { rec0 .ready with state := .busy }) := World.putObj_heap_same hlt
      have hk2 : (W.putObj (D + 1) (.loop { rec0 .ready with state := .busy })).heap[D]? = some (.deferred (some [])) := (World.putObj_heap_other (by omega)).trans hk
      refine wpIn_mono (hbody _ σ pre x _ ((hI σ).putObj _ hi (by omega) hl rfl) ((hP pre).putObj _ hx (by omega) hl rfl)) ?_
      rintro e a3 W3 hp
      cases e with
      | ret => exact hp.elim
      | exit id => exact hp.elim
      | goto t => exact hp.elim
      | panic ch => exact hp.elim
      | outgrown => exact hp.elim
      | normal => ?_
      obtain ⟨hk3, hi3⟩ := hp
      have hl3 := hk3.same _ _ hl2 rfl
      have hd3 := hk3.same _ _ hk2 rfl
      exact ⟨_, _, run_endRound (P := P) none hl3, rfl, (hI σ).putObj _ hi3 (by omega) hl3 rfl, World.putObj_heap_same (Array.getElem?_eq_some_iff.1 hl3).1, (World.putObj_heap_other (by omega)).trans hd3⟩
    · rintro e W2 ⟨⟨v, rfl⟩, σ, xs, hS, hi, hl, hk⟩
      exact ⟨none, _, run_endLoop (P := P) hl (by intro h; cases h), hdone _ σ xs _ (Nat.le_refl _) hS ((hI σ).putObj _ hi (by omega) hl rfl) ((World.putObj_heap_other (by omega)).trans hk)⟩
end
end Go.Proofs.Ytnomodbcpndocaa
